/- The parts Oid of one proof, one behind the other. -/
import Derived.Lib.SplitLaws
import Derived.Lib.Join
import Derived.Lib.ItoaNum
import Derived.Lib.ParseIntB

/- Object identifiers, plain: strings of arcs, base-128 octets, and that reading and writing undo each other. No program in sight. -/
section
set_option linter.unusedSimpArgs false
set_option linter.unusedVariables false
namespace Go.Cr
/-! ### Decimal notation. -/
def numL (l : List UInt8) : Option Nat :=
  match Lib.parseUintB 32 l with
  | .ok n => if Lib.decDigits n = l then some n else none
  | _ => none

theorem parseUintM_snoc (M : Nat) : ∀ (l : List UInt8) (a n d : Nat), Lib.parseUintM M a l = .ok n → d < 10 → n < 1844674407370955162 → n * 10 + d ≤ M →
    Lib.parseUintM M a (l ++ [UInt8.ofNat (48 + d)]) = .ok (n * 10 + d) := by
  intro l
  induction l with
  | nil =>
    intro a n d h hd h1 h2
    simp only [Lib.parseUintM] at h
    cases h
    have e : (UInt8.ofNat (48 + d)).toNat = 48 + d := by simp; omega
    simp only [List.nil_append, Lib.parseUintM, e]
    rw [if_pos (by omega), if_neg (by omega), if_neg (by omega), show 48 + d - 48 = d by omega]
  | cons c r ih =>
    intro a n d h hd h1 h2
    simp only [List.cons_append, Lib.parseUintM] at h ⊢
    split at h
    · rename_i hc
      rw [if_pos hc]
      split at h
      · cases h
      · rename_i h3
        rw [if_neg h3]
        split at h
        · cases h
        · rename_i h4
          rw [if_neg h4]
          exact ih _ _ _ h hd h1 h2
    · cases h

theorem decDigits_ne (n : Nat) : Lib.decDigits n ≠ [] := by
  intro h
  have := Lib.nDigits_pos n
  rw [← Lib.decDigits_length, h] at this
  simp at this

theorem parseUintM_dec (n : Nat) : n ≤ 4294967295 → Lib.parseUintM 4294967295 0 (Lib.decDigits n) = .ok n := by
  induction n using Nat.strongRecOn with
  | _ n ih =>
    intro hn
    by_cases h : n < 10
    · rw [Lib.decDigits_one h]
      have e : (UInt8.ofNat (48 + n)).toNat = 48 + n := by simp; omega
      simp only [Lib.parseUintM, e]
      rw [if_pos (by omega), if_neg (by omega), if_neg (by omega)]
      congr 1
      omega
    · rw [Lib.decDigits, dif_neg h, parseUintM_snoc 4294967295 _ 0 (n / 10) (n % 10) (ih _ (by omega) (by omega)) (by omega) (by omega) (by omega)]
      congr 1
      omega

theorem numL_dec (n : Nat) (h : n ≤ 4294967295) : numL (Lib.decDigits n) = some n := by
  unfold numL Lib.parseUintB
  rw [if_neg (decDigits_ne n), show 2 ^ 32 - 1 = 4294967295 by decide, parseUintM_dec n h]
  simp

theorem numL_some {l : List UInt8} {n : Nat} (h : numL l = some n) : Lib.decDigits n = l ∧ n ≤ 4294967295 := by
  unfold numL at h
  split at h
  · rename_i m hm
    split at h
    · rename_i hd
      cases h
      refine ⟨hd, ?_⟩
      unfold Lib.parseUintB at hm
      split at hm
      · cases hm
      · rw [show 2 ^ 32 - 1 = 4294967295 by decide] at hm
        have hb : ∀ (l : List UInt8) (a u : Nat), a ≤ 4294967295 → Lib.parseUintM 4294967295 a l = .ok u → u ≤ 4294967295 := by
          intro l
          induction l with
          | nil => intro a u ha h; simp only [Lib.parseUintM] at h; cases h; exact ha
          | cons c r ih =>
            intro a u ha h
            simp only [Lib.parseUintM] at h
            split at h
            · split at h
              · cases h
              · split at h
                · cases h
                · exact ih _ _ (by omega) h
            · cases h
        exact hb _ _ _ (by omega) hm
    · cases h
  · cases h

def numR (a : Nat) : List UInt8 → Option Nat
  | [] => some a
  | c :: r => if c.toNat < 48 ∨ 57 < c.toNat ∨ 4294967295 < a then none else numR (a * 10 + (c.toNat - 48)) r
def numRef (l : List UInt8) : Option Nat :=
  match numR 0 l with
  | none => none
  | some n => if l ≠ [] ∧ n ≤ 4294967295 ∧ Lib.decDigits n = l then some n else none

theorem numR_snoc : ∀ (l : List UInt8) (a n d : Nat), numR a l = some n → d < 10 → n ≤ 4294967295 → numR a (l ++ [UInt8.ofNat (48 + d)]) = some (n * 10 + d) := by
  intro l
  induction l with
  | nil =>
    intro a n d h hd hn
    simp only [numR] at h
    cases h
    have e : (UInt8.ofNat (48 + d)).toNat = 48 + d := by simp; omega
    simp only [List.nil_append, numR, e]
    rw [if_neg (by omega), show 48 + d - 48 = d by omega]
  | cons c r ih =>
    intro a n d h hd hn
    simp only [List.cons_append, numR] at h ⊢
    split at h
    · cases h
    · rename_i hc
      rw [if_neg hc]
      exact ih _ _ _ h hd hn
theorem numR_dec (n : Nat) : n ≤ 4294967295 → numR 0 (Lib.decDigits n) = some n := by
  induction n using Nat.strongRecOn with
  | _ n ih =>
    intro hn
    by_cases h : n < 10
    · rw [Lib.decDigits_one h]
      have e : (UInt8.ofNat (48 + n)).toNat = 48 + n := by simp; omega
      simp only [numR, e]
      rw [if_neg (by omega)]
      congr 1
      omega
    · rw [Lib.decDigits, dif_neg h, numR_snoc _ 0 (n / 10) (n % 10) (ih _ (by omega) (by omega)) (by omega) (by omega)]
      congr 1
      omega
theorem numRef_eq (l : List UInt8) : numRef l = numL l := by
  cases h : numL l with
  | some n =>
    obtain ⟨h1, h2⟩ := numL_some h
    unfold numRef
    rw [← h1, numR_dec n h2]
    simp [decDigits_ne, h2]
  | none =>
    unfold numRef
    cases hr : numR 0 l with
    | none => rfl
    | some n =>
      simp only
      split
      · rename_i hc
        obtain ⟨_, h2, h3⟩ := hc
        rw [← h3, numL_dec n h2] at h
        cases h
      · rfl

/-! ### Pieces between points. -/
def pieces : List UInt8 → List (List UInt8)
  | [] => [[]]
  | c :: r => if c = 46 then [] :: pieces r else match pieces r with
    | [] => [[c]]
    | p :: ps => (c :: p) :: ps
theorem pieces_ne (l : List UInt8) : pieces l ≠ [] := by
  cases l with
  | nil => simp [pieces]
  | cons c r =>
    simp only [pieces]
    split
    · simp
    · split <;> simp
theorem pieces_len (l : List UInt8) : (pieces l).length ≤ l.length + 1 := by
  induction l with
  | nil => simp [pieces]
  | cons c r ih =>
    simp only [pieces]
    split
    · simp only [List.length_cons]; omega
    · have := pieces_ne r
      split
      · simp
      · rename_i h; rw [h] at ih; simp only [List.length_cons] at ih ⊢; omega
theorem pieces_mem_len (l : List UInt8) : ∀ p ∈ pieces l, p.length ≤ l.length := by
  induction l with
  | nil => simp [pieces]
  | cons c r ih =>
    simp only [pieces]
    split
    · intro p hp
      simp only [List.mem_cons] at hp
      rcases hp with rfl | hp
      · simp
      · have := ih p hp; simp only [List.length_cons]; omega
    · split
      · intro p hp; simp at hp; subst hp; simp
      · rename_i p' ps h
        rw [h] at ih
        intro p hp
        simp only [List.mem_cons] at hp
        rcases hp with rfl | hp
        · have := ih p' (by simp); simp only [List.length_cons]; omega
        · have := ih p (by simp [hp]); simp only [List.length_cons]; omega
theorem pieces_app (p r : List UInt8) (h : ∀ c ∈ p, c ≠ 46) : pieces (p ++ r) = (match pieces r with | [] => [p] | q :: qs => (p ++ q) :: qs) := by
  induction p with
  | nil =>
    have := pieces_ne r
    simp only [List.nil_append]
    split
    · rename_i h; exact absurd h this
    · rename_i h; exact h
  | cons c t ih =>
    have hc : c ≠ 46 := h c (by simp)
    simp only [List.cons_append, pieces]
    rw [if_neg hc, ih (fun x hx => h x (by simp [hx]))]
    have := pieces_ne r
    cases hr : pieces r with
    | nil => exact absurd hr this
    | cons q qs => rfl
theorem pieces_free (p : List UInt8) (h : ∀ c ∈ p, c ≠ 46) : pieces p = [p] := by
  have := pieces_app p [] h
  simpa [pieces] using this
theorem pieces_dot (p r : List UInt8) (h : ∀ c ∈ p, c ≠ 46) : pieces (p ++ 46 :: r) = p :: pieces r := by
  rw [pieces_app p _ h]; simp [pieces]
theorem join_pieces (l : List UInt8) : Lib.join (pieces l) [46] = l := by
  induction l with
  | nil => rfl
  | cons c r ih =>
    simp only [pieces]
    have hne := pieces_ne r
    split
    · rename_i hc
      subst hc
      cases hr : pieces r with
      | nil => exact absurd hr hne
      | cons q qs =>
        rw [hr] at ih
        rw [Lib.join_cons] at ih ⊢
        simp only [Lib.joinTail, List.map_cons, List.flatten_cons, List.nil_append] at ih ⊢
        rw [List.append_assoc, ih]; rfl
    · cases hr : pieces r with
      | nil => exact absurd hr hne
      | cons q qs =>
        rw [hr] at ih
        rw [Lib.join_cons] at ih
        simp only
        rw [Lib.join_cons, List.cons_append, ih]
theorem pieces_join (ps : List (List UInt8)) (hne : ps ≠ []) (h : ∀ p ∈ ps, ∀ c ∈ p, c ≠ 46) : pieces (Lib.join ps [46]) = ps := by
  induction ps with
  | nil => exact absurd rfl hne
  | cons p t ih =>
    rw [Lib.join_cons]
    cases t with
    | nil => simpa [Lib.joinTail] using pieces_free p (h p (by simp))
    | cons q qs =>
      have e : p ++ Lib.joinTail [46] (q :: qs) = p ++ 46 :: Lib.join (q :: qs) [46] := by
        rw [Lib.join_cons]; simp [Lib.joinTail]
      rw [e, pieces_dot p _ (h p (by simp)), ih (by simp) (fun x hx => h x (by simp [hx]))]

theorem split_pieces (l : List UInt8) : Lib.split l [46] = pieces l := by
  have key : ∀ (k : Nat) (l : List UInt8), l.length ≤ k → Lib.splitK [46] 0 (Lib.count l [46]) l = pieces l := by
    intro k
    induction k with
    | zero =>
      intro l hl
      obtain rfl := List.eq_nil_of_length_eq_zero (by omega : l.length = 0)
      rfl
    | succ k ih =>
      intro l hl
      rcases Lib.index_spec l [46] with ⟨hi, hno⟩ | ⟨i, hi, hle, hocc, hno⟩
      · rw [Lib.count_miss hi]
        have hfree : ∀ c ∈ l, c ≠ 46 := by
          intro c hc e
          subst e
          obtain ⟨j, hj, hjl⟩ := List.getElem_of_mem hc
          have := hno j (by omega)
          unfold Lib.occAt at this
          rw [List.drop_eq_getElem_cons hj, hjl] at this
          simp [List.isPrefixOf] at this
        rw [pieces_free l hfree]
        rfl
      · have hroom := Lib.index_room l [46] (by omega)
        simp only [List.length_cons, List.length_nil] at hroom
        have hil : i < l.length := by omega
        have h46 : l[i] = 46 := by
          have := Lib.occAt_head (c := 46) (t := []) rfl hocc
          rw [List.getElem?_eq_getElem hil] at this
          exact Option.some.inj this
        rw [Lib.count_hit (by simp) hi, Nat.add_comm 1]
        have hm : ¬ (Lib.index l [46] == -1) = true := fun e => by have := beq_iff_eq.1 e; omega
        have ht : (Lib.index l [46]).toNat = i := by omega
        rw [Lib.splitK, if_neg hm, ht]
        simp only [List.length_cons, List.length_nil, Nat.add_zero]
        rw [ih (l.drop (i + 1)) (by simp; omega)]
        have hsp : l = l.take i ++ 46 :: l.drop (i + 1) := by
          rw [← h46, ← List.drop_eq_getElem_cons hil, List.take_append_drop]
        have hfree : ∀ c ∈ l.take i, c ≠ 46 := by
          intro c hc e
          subst e
          obtain ⟨j, hj, hjl⟩ := List.getElem_of_mem hc
          have hj2 : j < i := by simp at hj; omega
          have := hno j hj2
          unfold Lib.occAt at this
          rw [List.drop_eq_getElem_cons (by omega : j < l.length)] at this
          rw [List.getElem_take] at hjl
          rw [hjl] at this
          simp [List.isPrefixOf] at this
        conv => rhs; rw [hsp]
        rw [pieces_dot _ _ hfree]
  exact key _ l (Nat.le_refl _)

/-! ### Arcs. -/
def rightL : List Nat → Bool
  | a :: b :: _ => decide (a ≤ 2) && (if a < 2 then decide (b < 40) else decide (b ≤ 4294967215))
  | _ => false
def numsL : List (List UInt8) → Option (List Nat)
  | [] => some []
  | p :: ps => match numL p with
    | none => none
    | some n => (numsL ps).map (n :: ·)
def arcsL (l : List UInt8) : Option (List Nat) := match numsL (pieces l) with
  | none => none
  | some as => if rightL as then some as else none
def textL (as : List Nat) : List UInt8 := Lib.join (as.map Lib.decDigits) [46]

theorem numsL_dec (as : List Nat) (h : ∀ a ∈ as, a ≤ 4294967295) : numsL (as.map Lib.decDigits) = some as := by
  induction as with
  | nil => rfl
  | cons a t ih =>
    simp only [List.map_cons, numsL, numL_dec a (h a (by simp)), ih (fun x hx => h x (by simp [hx]))]
    rfl
theorem numsL_some {ps : List (List UInt8)} {as : List Nat} (h : numsL ps = some as) : as.map Lib.decDigits = ps ∧ ∀ a ∈ as, a ≤ 4294967295 := by
  induction ps generalizing as with
  | nil => simp only [numsL] at h; cases h; simp
  | cons p t ih =>
    simp only [numsL] at h
    split at h
    · cases h
    · rename_i n hn
      cases ht : numsL t with
      | none => rw [ht] at h; cases h
      | some as' =>
        rw [ht] at h
        cases h
        obtain ⟨h1, h2⟩ := ih ht
        obtain ⟨h3, h4⟩ := numL_some hn
        refine ⟨by simp [h1, h3], ?_⟩
        intro a ha
        simp only [List.mem_cons] at ha
        rcases ha with rfl | ha
        · exact h4
        · exact h2 a ha
theorem decDigits_free (n : Nat) : ∀ c ∈ Lib.decDigits n, c ≠ 46 := by
  induction n using Nat.strongRecOn with
  | _ n ih =>
    have one : ∀ d, d < 10 → UInt8.ofNat (48 + d) ≠ 46 := by
      intro d hd e
      have := congrArg UInt8.toNat e
      simp at this
      omega
    by_cases h : n < 10
    · rw [Lib.decDigits_one h]
      intro c hc
      rw [List.mem_singleton] at hc
      subst hc
      exact one n h
    · rw [Lib.decDigits, dif_neg h]
      intro c hc
      simp only [List.mem_append, List.mem_singleton] at hc
      rcases hc with hc | rfl
      · exact ih _ (by omega) c hc
      · exact one _ (by omega)
theorem rightL_ne {as : List Nat} (h : rightL as = true) : 2 ≤ as.length := by
  match as with
  | [] => simp [rightL] at h
  | [_] => simp [rightL] at h
  | _ :: _ :: _ => simp
theorem arcsL_text (as : List Nat) (hr : rightL as = true) (h : ∀ a ∈ as, a ≤ 4294967295) : arcsL (textL as) = some as := by
  have hne := rightL_ne hr
  unfold arcsL textL
  rw [pieces_join _ (by intro e; have := congrArg List.length e; simp at this; subst this; simp at hne) (by
    intro p hp
    simp only [List.mem_map] at hp
    obtain ⟨n, _, rfl⟩ := hp
    exact decDigits_free n), numsL_dec as h]
  simp [hr]
theorem arcsL_some {l : List UInt8} {as : List Nat} (h : arcsL l = some as) : textL as = l ∧ rightL as = true ∧ ∀ a ∈ as, a ≤ 4294967295 := by
  unfold arcsL at h
  split at h
  · cases h
  · rename_i as' hn
    split at h
    · rename_i hr
      cases h
      obtain ⟨h1, h2⟩ := numsL_some hn
      exact ⟨by unfold textL; rw [h1, join_pieces], hr, h2⟩
    · cases h
theorem arcsL_len {l : List UInt8} {as : List Nat} (h : arcsL l = some as) : as.length ≤ l.length + 1 := by
  unfold arcsL at h
  split at h
  · cases h
  · rename_i as' hn
    split at h
    · cases h
      have := congrArg List.length (numsL_some hn).1
      have := pieces_len l
      simp at *
      omega
    · cases h

def goArcs : List UInt8 → List UInt8 → List Nat → Option (List Nat)
  | cur, [], out => (numL cur).map fun n => out ++ [n]
  | cur, c :: r, out => if c = 46 then (match numL cur with | none => none | some n => goArcs [] r (out ++ [n])) else goArcs (cur ++ [c]) r out
theorem goArcs_eq (r : List UInt8) : ∀ (cur : List UInt8) (out : List Nat), (∀ c ∈ cur, c ≠ 46) → goArcs cur r out = (numsL (pieces (cur ++ r))).map (out ++ ·) := by
  induction r with
  | nil =>
    intro cur out hc
    rw [List.append_nil, pieces_free cur hc]
    simp only [goArcs, numsL]
    cases numL cur <;> simp
  | cons c r ih =>
    intro cur out hc
    simp only [goArcs]
    split
    · rename_i h
      subst h
      rw [pieces_dot cur r hc]
      simp only [numsL]
      cases numL cur with
      | none => rfl
      | some n =>
        simp only
        rw [ih [] _ (by simp)]
        simp only [List.nil_append]
        cases numsL (pieces r) <;> simp
    · rename_i h
      rw [ih (cur ++ [c]) out (by intro x hx; simp only [List.mem_append, List.mem_singleton] at hx; rcases hx with hx | rfl; exact hc x hx; exact h), List.append_assoc]
      rfl

/-! ### Octets. -/
def b128 : Nat → Nat → Bool → List UInt8
  | 0, n, last => [UInt8.ofNat (n % 128 + if last then 0 else 128)]
  | k + 1, n, last => if n < 128 then [UInt8.ofNat (n + if last then 0 else 128)] else b128 k (n / 128) false ++ [UInt8.ofNat (n % 128 + if last then 0 else 128)]
def subL (n : Nat) : List UInt8 := b128 4 n true
def subsL : List Nat → List Nat
  | a :: b :: t => (40 * a + b) :: t
  | l => l
def encL (as : List Nat) : List UInt8 := (subsL as).flatMap subL
def oidE (l : List UInt8) : Option (List UInt8) := (arcsL l).map encL

def decN : List UInt8 → Bool → Nat → List Nat → Option (List Nat)
  | [], begun, _, acc => if begun then none else some acc
  | x :: r, begun, n, acc =>
    if begun = false ∧ x.toNat = 128 then none
    else if 4294967295 < n * 128 + x.toNat % 128 then none
    else if 128 ≤ x.toNat then decN r true (n * 128 + x.toNat % 128) acc else decN r false 0 (acc ++ [n * 128 + x.toNat % 128])
def rootL (ns : List Nat) : List Nat := match ns with
  | [] => []
  | n :: t => min (n / 40) 2 :: (n - 40 * min (n / 40) 2) :: t
def oidD (c : List UInt8) : Option (List UInt8) := match decN c false 0 [] with
  | none => none
  | some [] => none
  | some (n :: t) => some (textL (rootL (n :: t)))

def decR : List UInt8 → Nat → List Nat → Option (List Nat)
  | [], _, acc => some acc
  | x :: r, n, acc =>
    if 4294967295 < n * 128 + x.toNat % 128 then none
    else if 128 ≤ x.toNat then decR r (n * 128 + x.toNat % 128) acc else decR r 0 (acc ++ [n * 128 + x.toNat % 128])
theorem decN_R (c : List UInt8) : ∀ (b : Bool) (n : Nat) (acc ns : List Nat), decN c b n acc = some ns → decR c n acc = some ns := by
  induction c with
  | nil =>
    intro b n acc ns h
    simp only [decN] at h
    split at h
    · cases h
    · exact h
  | cons x r ih =>
    intro b n acc ns h
    simp only [decN] at h
    simp only [decR]
    split at h
    · cases h
    split at h
    · cases h
    rename_i h2
    rw [if_neg h2]
    split at h
    · rename_i h3; rw [if_pos h3]; exact ih _ _ _ _ h
    · rename_i h3; rw [if_neg h3]; exact ih _ _ _ _ h

theorem b128_len (k n : Nat) (l : Bool) : (b128 k n l).length ≤ k + 1 := by
  induction k generalizing n l with
  | zero => simp [b128]
  | succ k ih =>
    simp only [b128]
    split
    · simp
    · have := ih (n / 128) false; simp; omega

theorem u8_nat (k : Nat) (h : k < 256) : (UInt8.ofNat k).toNat = k := by simp; omega

theorem decN_more (k : Nat) : ∀ (n : Nat) (r : List UInt8) (acc : List Nat), 0 < n → n < 128 ^ (k + 1) → n ≤ 4294967295 → decN (b128 k n false ++ r) false 0 acc = decN r true n acc := by
  induction k with
  | zero =>
    intro n r acc h0 h1 h2
    simp only [Nat.zero_add, Nat.pow_one] at h1
    have e := u8_nat (n % 128 + 128) (by omega)
    simp only [b128, Bool.false_eq_true, if_false, List.cons_append, List.nil_append, decN, e]
    rw [if_neg (by omega), if_neg (by omega), if_pos (by omega)]
    congr 1
    omega
  | succ k ih =>
    intro n r acc h0 h1 h2
    simp only [b128, Bool.false_eq_true, if_false]
    split
    · have e := u8_nat (n + 128) (by omega)
      simp only [List.cons_append, List.nil_append, decN, e]
      rw [if_neg (by omega), if_neg (by omega), if_pos (by omega)]
      congr 1
      omega
    · rw [List.append_assoc, ih (n / 128) _ acc (by omega) (by rw [Nat.pow_succ] at h1; omega) (by omega)]
      have e := u8_nat (n % 128 + 128) (by omega)
      simp only [List.cons_append, List.nil_append, decN, e]
      rw [if_neg (by simp), if_neg (by omega), if_pos (by omega)]
      congr 1
      omega
theorem decN_sub (n : Nat) (r : List UInt8) (acc : List Nat) (h : n ≤ 4294967295) : decN (subL n ++ r) false 0 acc = decN r false 0 (acc ++ [n]) := by
  unfold subL
  rw [show b128 4 n true = if n < 128 then [UInt8.ofNat n] else b128 3 (n / 128) false ++ [UInt8.ofNat (n % 128)] from rfl]
  split
  · have e := u8_nat n (by omega)
    simp only [List.cons_append, List.nil_append, decN, e]
    rw [if_neg (by omega), if_neg (by omega), if_neg (by omega)]
    congr 2
    simp
    omega
  · rw [List.append_assoc, decN_more 3 (n / 128) _ acc (by omega) (by omega) (by omega)]
    have e := u8_nat (n % 128) (by omega)
    simp only [List.cons_append, List.nil_append, decN, e]
    rw [if_neg (by simp), if_neg (by omega), if_neg (by omega)]
    congr 2
    simp
    omega
theorem decN_subs (ns : List Nat) : ∀ (acc : List Nat), (∀ n ∈ ns, n ≤ 4294967295) → decN (ns.flatMap subL) false 0 acc = some (acc ++ ns) := by
  induction ns with
  | nil => intro acc _; simp [decN]
  | cons n t ih =>
    intro acc h
    rw [List.flatMap_cons, decN_sub n _ acc (h n (by simp)), ih _ (fun x hx => h x (by simp [hx]))]
    simp

theorem b128_snoc (k n x : Nat) (hx : x < 128) (hn : 0 < n) (last : Bool) : b128 (k + 1) (n * 128 + x) last = b128 k n false ++ [UInt8.ofNat (x + if last then 0 else 128)] := by
  simp only [b128]
  rw [if_neg (by omega), show (n * 128 + x) / 128 = n by omega, show (n * 128 + x) % 128 = x by omega]
theorem b128_fuel (k j n : Nat) (last : Bool) (h : n < 128 ^ (k + 1)) : b128 (k + j) n last = b128 k n last := by
  induction k generalizing n last with
  | zero =>
    have hn : n < 128 := by simpa using h
    cases j with
    | zero => rfl
    | succ j =>
      simp only [Nat.zero_add, b128]
      rw [if_pos hn, Nat.mod_eq_of_lt hn]
  | succ k ih =>
    rw [show k + 1 + j = (k + j) + 1 by omega]
    simp only [b128]
    split
    · rfl
    · rw [ih (n / 128) false (by rw [Nat.pow_succ] at h; omega)]

theorem decN_back (c : List UInt8) : ∀ (b : Bool) (n : Nat) (acc ns : List Nat), (b = true → 0 < n) → (b = false → n = 0) → n ≤ 4294967295 → decN c b n acc = some ns →
    ∃ ms, ns = acc ++ ms ∧ (∀ m ∈ ms, m ≤ 4294967295) ∧ (if b then b128 4 n false else []) ++ c = ms.flatMap subL ∧ (b = true → ms ≠ []) := by
  induction c with
  | nil =>
    intro b n acc ns h0 h1 h2 h
    simp only [decN] at h
    cases b
    · simp at h; subst h; exact ⟨[], by simp, by simp, by simp, by simp⟩
    · simp at h
  | cons x r ih =>
    intro b n acc ns h0 h1 h2 h
    have hx := x.toNat_lt
    have hxo : UInt8.ofNat x.toNat = x := by simp
    simp only [decN] at h
    split at h
    · cases h
    rename_i hc1
    split at h
    · cases h
    rename_i hc2
    split at h
    · rename_i hc3
      have hn' : 0 < n * 128 + x.toNat % 128 := by
        cases b
        · simp at hc1; omega
        · have := h0 rfl; omega
      obtain ⟨ms, e1, e2, e3, e4⟩ := ih true _ acc ns (fun _ => hn') (by simp) (by omega) h
      refine ⟨ms, e1, e2, ?_, fun _ => e4 rfl⟩
      rw [← e3]
      simp only [if_true]
      cases b
      · have := h1 rfl
        subst this
        have : b128 4 (0 * 128 + x.toNat % 128) false = [x] := by
          simp only [b128, Bool.false_eq_true, if_false]
          rw [if_pos (by omega), show 0 * 128 + x.toNat % 128 + 128 = x.toNat by omega, hxo]
        rw [this]; simp
      · have hn := h0 rfl
        have : b128 4 (n * 128 + x.toNat % 128) false = b128 4 n false ++ [x] := by
          rw [show (4 : Nat) = 3 + 1 from rfl, b128_snoc 3 n _ (by omega) hn false, b128_fuel 3 1 n false (by omega)]
          simp only [Bool.false_eq_true, if_false]
          rw [show x.toNat % 128 + 128 = x.toNat by omega, hxo]
        rw [this]; simp
    · rename_i hc3
      obtain ⟨ms, e1, e2, e3, e4⟩ := ih false 0 _ ns (by simp) (by simp) (by omega) h
      refine ⟨(n * 128 + x.toNat % 128) :: ms, by rw [e1]; simp, ?_, ?_, by simp⟩
      · intro m hm
        simp only [List.mem_cons] at hm
        rcases hm with rfl | hm
        · omega
        · exact e2 m hm
      · rw [List.flatMap_cons, ← e3]
        simp only [Bool.false_eq_true, if_false, List.nil_append]
        have : (if b = true then b128 4 n false else []) ++ [x] = subL (n * 128 + x.toNat % 128) := by
          unfold subL
          cases b
          · have := h1 rfl
            subst this
            simp only [Bool.false_eq_true, if_false, List.nil_append, b128, if_true]
            rw [if_pos (by omega), show 0 * 128 + x.toNat % 128 + 0 = x.toNat by omega, hxo]
          · have hn := h0 rfl
            rw [show (4 : Nat) = 3 + 1 from rfl, b128_snoc 3 n _ (by omega) hn true, b128_fuel 3 1 n false (by omega)]
            simp only [if_true, Nat.add_zero]
            rw [show x.toNat % 128 = x.toNat by omega, hxo]
        rw [← this]; simp

theorem rootL_right {n : Nat} {t : List Nat} (h : ∀ m ∈ n :: t, m ≤ 4294967295) : rightL (rootL (n :: t)) = true ∧ (∀ m ∈ rootL (n :: t), m ≤ 4294967295) ∧ subsL (rootL (n :: t)) = n :: t := by
  have hn := h n (by simp)
  refine ⟨?_, ?_, ?_⟩
  · simp only [rootL, rightL]
    split <;> simp <;> omega
  · intro m hm
    simp only [rootL, List.mem_cons] at hm
    rcases hm with rfl | rfl | hm
    · omega
    · omega
    · exact h m (by simp [hm])
  · simp only [rootL, subsL]
    congr 1
    omega
theorem subs_root {as : List Nat} (h : rightL as = true) (hm : ∀ a ∈ as, a ≤ 4294967295) : (∀ m ∈ subsL as, m ≤ 4294967295) ∧ rootL (subsL as) = as ∧ ∃ n t, subsL as = n :: t := by
  match as, h with
  | a :: b :: t, h =>
    simp only [rightL, Bool.and_eq_true, decide_eq_true_eq] at h
    obtain ⟨h1, h2⟩ := h
    have h3 : (a < 2 ∧ b < 40) ∨ (a = 2 ∧ b ≤ 4294967215) := by
      have h1' : a ≤ 2 := h1
      split at h2
      · rename_i hlt; left; exact ⟨hlt, by simpa using h2⟩
      · rename_i hge; right; have h2' : b ≤ 4294967215 := by simpa using h2
        omega
    refine ⟨?_, ?_, _, _, rfl⟩
    · intro m hm'
      simp only [subsL, List.mem_cons] at hm'
      rcases hm' with rfl | hm'
      · omega
      · exact hm m (by simp [hm'])
    · simp only [subsL, rootL]
      have : min ((40 * a + b) / 40) 2 = a := by omega
      rw [this]
      congr 2
      omega

theorem oid_iff (c s : List UInt8) : oidD c = some s ↔ oidE s = some c := by
  constructor
  · intro h
    unfold oidD at h
    split at h
    · cases h
    · cases h
    · rename_i n t hd
      cases h
      obtain ⟨ms, e1, e2, e3, _⟩ := decN_back c false 0 [] _ (by simp) (by simp) (by omega) hd
      simp only [List.nil_append, Bool.false_eq_true, if_false] at e1 e3
      subst e1
      obtain ⟨r1, r2, r3⟩ := rootL_right e2
      unfold oidE
      rw [arcsL_text _ r1 r2]
      simp only [Option.map_some, encL, r3, e3]
  · intro h
    unfold oidE at h
    cases ha : arcsL s with
    | none => rw [ha] at h; cases h
    | some as =>
      rw [ha] at h
      simp only [Option.map_some] at h
      cases h
      obtain ⟨h1, h2, h3⟩ := arcsL_some ha
      obtain ⟨r1, r2, n, t, r3⟩ := subs_root h2 h3
      unfold oidD encL
      rw [decN_subs _ [] r1, List.nil_append, r3]
      simp only
      rw [← r3, r2, h1]

def oidR (c : List UInt8) : Option (List UInt8) := match decR c 0 [] with
  | none => none
  | some [] => none
  | some (n :: t) => if oidE (textL (rootL (n :: t))) = some c then some (textL (rootL (n :: t))) else none
theorem oidR_eq (c : List UInt8) : oidR c = oidD c := by
  cases h : oidD c with
  | some s =>
    have h' := (oid_iff c s).1 h
    unfold oidD at h
    split at h
    · cases h
    · cases h
    · rename_i n t hd
      cases h
      unfold oidR
      rw [decN_R _ _ _ _ _ hd]
      simp only
      rw [if_pos h']
  | none =>
    unfold oidR
    split
    · rfl
    · rfl
    · split
      · rename_i he
        have := (oid_iff c _).2 he
        rw [h] at this
        cases this
      · rfl
end Go.Cr
end
