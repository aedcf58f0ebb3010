/- The parts Tree, Node, Parts of one proof, one behind the other. -/
import Derived.Test.YtjjkimjdmpeddaaGreatDoorJ04
import Derived.Test.YtjjkimjdmpeddaaGreatDoorJ02

/- Trees of elements, plain: reading to a depth, what is read is what would be written, parts of an element. No program in sight. -/
section
set_option linter.unusedSimpArgs false
set_option linter.unusedVariables false
namespace Go.Cr
open Go.RowKit

/-- A length that was read is written as it was read. -/
theorem rdLen_canon {l : List UInt8} {n k : Int} (h : rdLen l = .ok (n, k)) : lenOct n.toNat = l.take k.toNat := by
  have h0 := bat_lt l 0
  have h1 := bat_pos l 0
  unfold rdLen at h
  split at h
  · cases h
  rename_i c1
  split at h
  · rename_i c2
    injection h with h; injection h with h2 h3
    obtain ⟨x, t, rfl⟩ : ∃ x t, l = x :: t := by
      cases l with
      | nil => exact absurd rfl c1
      | cons x t => exact ⟨x, t, rfl⟩
    · rw [bat_cons_zero] at h2 c2 h0 h1
      rw [← h2, ← h3, show (1 : Int).toNat = 1 from rfl, List.take_succ_cons, List.take_zero]
      unfold lenOct
      rw [if_pos (by omega), show minF 7 (bi x).toNat = [UInt8.ofNat (bi x).toNat] by simp only [minF]; rw [if_pos (by omega)]]
      congr 1
      simp [bi]
  split at h
  · cases h
  split at h
  · cases h
  split at h
  · cases h
  rename_i c2 c3 c4 c5
  injection h with h; injection h with h2 h3
  obtain ⟨m, hm⟩ : ∃ m : Nat, bat l 0 - 128 = m := ⟨(bat l 0 - 128).toNat, by omega⟩
  have := (lenOct_long (l := l) (k := m) (by omega) (by omega) (by omega) (by omega)).2 (by
    rw [hm, Int.toNat_natCast] at c5
    exact fun e => c5 (by rcases e with e | e; exact .inl e; exact .inr (.inl e)))
  rw [← h2, ← h3, hm, Int.toNat_natCast, this]
  rw [show (1 + (m : Int)).toNat = 1 + m by omega]

/-- The contents octets. -/
def cont (l : List UInt8) (h : Hdr) : List UInt8 := (l.drop h.size.toNat).take h.len.toNat
theorem cont_len {l : List UInt8} {h : Hdr} (e : nextH l = .ok h) : ((cont l h).length : Int) = h.len := by
  have := nextH_ok e
  unfold cont
  simp
  omega
theorem nextH_hdr {l : List UInt8} {h : Hdr} (e : nextH l = .ok h) : rdHdr l = .ok h ∧ h.size + h.len ≤ l.length := by
  have hb := nextH_ok e
  unfold nextH at e
  split at e
  · cases e
  · rename_i hr
    split at e
    · cases e
    · injection e with e; subst e; exact ⟨hr, hb.2.2.2⟩
theorem idB_read (x : UInt8) (h : bi x % 32 ≠ 31) : idB (bi x / 64) (decide (bi x / 32 % 2 = 1)) (bi x % 32) = x := by
  have h0 := bi_pos x
  have h1 := bi_lt x
  apply bi_inj
  rw [idB_bi _ _ _ (by omega) (by omega) (by omega) (by omega)]
  by_cases hc : bi x / 32 % 2 = 1
  · simp only [hc, decide_true, if_true]; omega
  · simp only [hc, decide_false, Bool.false_eq_true, if_false]; omega
theorem rdHdr_canon {l : List UInt8} {h : Hdr} (e : rdHdr l = .ok h) : idB h.cls h.con h.num :: lenOct h.len.toNat = l.take h.size.toNat := by
  unfold rdHdr at e
  split at e
  · cases e
  rename_i c1
  split at e
  · cases e
  rename_i c2
  split at e
  · cases e
  rename_i n k hr
  injection e with e
  subst e
  have hb := rdLen_ok hr
  match l, c1 with
  | x :: t, _ =>
    have hx : bat (x :: t) 0 = bi x := bat_cons_zero x t
    rw [hx] at c2
    have hi := idB_read x c2
    rw [← hx] at hi
    simp only [List.drop_succ_cons, List.drop_zero] at hr
    rw [hi, rdLen_canon hr, show (1 + k).toNat = k.toNat + 1 by omega, List.take_succ_cons]
/-- What was read is what would be written. -/
theorem nextH_canon {l : List UInt8} {h : Hdr} (e : nextH l = .ok h) : encO h.cls h.con h.num (cont l h) = l.take (h.size + h.len).toNat := by
  obtain ⟨hr, hle⟩ := nextH_hdr e
  have hb := nextH_ok e
  have hc := cont_len e
  unfold encO
  rw [← List.cons_append, show (cont l h).length = h.len.toNat by omega, rdHdr_canon hr]
  unfold cont
  rw [show (h.size + h.len).toNat = h.size.toNat + h.len.toNat by omega, List.take_add]
theorem nextH_app {l : List UInt8} {h : Hdr} (r : List UInt8) (e : nextH l = .ok h) : nextH (l ++ r) = .ok h ∧ cont (l ++ r) h = cont l h := by
  obtain ⟨hr, hle⟩ := nextH_hdr e
  have hb := nextH_ok e
  constructor
  · unfold nextH
    rw [rdHdr_app r hr]
    simp only [List.length_append]
    rw [if_neg (by omega)]
  · unfold cont
    rw [List.drop_append_of_le_length (by omega), List.take_append_of_le_length (by simp; omega)]
theorem nextH_take {l : List UInt8} {h : Hdr} (m : Nat) (e : nextH l = .ok h) (hm : h.size + h.len ≤ m) : nextH (l.take m) = .ok h ∧ cont (l.take m) h = cont l h := by
  obtain ⟨hr, hle⟩ := nextH_hdr e
  have hb := nextH_ok e
  constructor
  · unfold nextH
    rw [rdHdr_take m hr (by omega)]
    simp only [List.length_take]
    rw [if_neg (by omega)]
  · unfold cont
    rw [List.drop_take, List.take_take, Nat.min_eq_left (by omega)]
theorem nextH_enc (c n : Int) (k : Bool) (l r : List UInt8) (h : 0 ≤ c) (h1 : c ≤ 3) (h2 : 0 ≤ n) (h3 : n < 31) (hl : l.length ≤ 2147483647) :
    nextH (encO c k n l ++ r) = .ok ⟨c, n, k, l.length, 1 + (lenOct l.length).length⟩ := by
  have hL := encO_len c n k l
  unfold nextH
  rw [rdHdr_enc c n k l r h h1 h2 h3 hl]
  simp only [List.length_append]
  rw [if_neg (by omega)]
theorem cont_enc (c n : Int) (k : Bool) (l r : List UInt8) : cont (encO c k n l ++ r) ⟨c, n, k, l.length, 1 + (lenOct l.length).length⟩ = l := by
  unfold cont encO
  simp only
  rw [show (1 + ((lenOct l.length).length : Int)).toNat = (lenOct l.length).length + 1 by omega, Int.toNat_natCast, List.cons_append, List.drop_succ_cons, List.append_assoc, List.drop_left, List.take_left]

/-! ### Reading to a depth. -/
/-- The elements that bytes consist of, each as its octets. -/
def scanL (rd : List UInt8 → Option Nat) : Nat → List UInt8 → Option (List (List UInt8))
  | 0, l => if l = [] then some [] else none
  | k + 1, l => if l = [] then some [] else match rd l with
    | none => none
    | some n => (scanL rd k (l.drop n)).map (l.take n :: ·)
/-- The number of octets of the element at the beginning, within a depth. -/
def readT : Nat → List UInt8 → Option Nat
  | 0, _ => none
  | d + 1, l => match nextH l with
    | .error _ => none
    | .ok h => if h.con = false then some (h.size + h.len).toNat else match scanL (readT d) h.len.toNat (cont l h) with
      | none => none
      | some _ => some (h.size + h.len).toNat
/-- Bytes that are one element within a depth. -/
def treeOK (d : Nat) (l : List UInt8) : Prop := readT d l = some l.length
instance (d : Nat) (l : List UInt8) : Decidable (treeOK d l) := inferInstanceAs (Decidable (_ = _))

theorem readT_bound {d : Nat} {l : List UInt8} {n : Nat} (h : readT d l = some n) : 2 ≤ n ∧ n ≤ l.length := by
  cases d with
  | zero => cases h
  | succ d =>
    simp only [readT] at h
    split at h
    · cases h
    · rename_i hd hn
      have := nextH_ok hn
      split at h
      · cases h; omega
      · split at h
        · cases h
        · cases h; omega
theorem scanL_flat {rd : List UInt8 → Option Nat} : ∀ (k : Nat) {l : List UInt8} {ks : List (List UInt8)}, scanL rd k l = some ks → ks.flatten = l := by
  intro k
  induction k with
  | zero =>
    intro l ks h
    simp only [scanL] at h
    split at h
    · cases h; simp [*]
    · cases h
  | succ k ih =>
    intro l ks h
    simp only [scanL] at h
    split at h
    · cases h; simp [*]
    · split at h
      · cases h
      · rename_i n hn
        cases hs : scanL rd k (l.drop n) with
        | none => rw [hs] at h; cases h
        | some ks' =>
          rw [hs] at h
          cases h
          rw [List.flatten_cons, ih hs, List.take_append_drop]
/-- Nothing changes with more rounds than octets. -/
theorem scanL_fuel {rd : List UInt8 → Option Nat} (hrd : ∀ l n, rd l = some n → 0 < n) : ∀ (k : Nat) (l : List UInt8) (j : Nat), l.length ≤ k → scanL rd (k + j) l = scanL rd k l := by
  intro k
  induction k with
  | zero =>
    intro l j hl
    obtain rfl := List.eq_nil_of_length_eq_zero (by omega : l.length = 0)
    cases j <;> simp [scanL]
  | succ k ih =>
    intro l j hl
    rw [show k + 1 + j = (k + j) + 1 by omega]
    simp only [scanL]
    split
    · rfl
    · cases hr : rd l with
      | none => rfl
      | some n =>
        have := hrd l n hr
        simp only
        rw [ih (l.drop n) j (by simp; omega)]
theorem scanL_mono {rd rd' : List UInt8 → Option Nat} (h : ∀ l n, rd l = some n → rd' l = some n) : ∀ (k : Nat) {l : List UInt8} {ks : List (List UInt8)}, scanL rd k l = some ks → scanL rd' k l = some ks := by
  intro k
  induction k with
  | zero => intro l ks e; exact e
  | succ k ih =>
    intro l ks e
    simp only [scanL] at e ⊢
    split at e
    · rename_i hl; rw [if_pos hl]; exact e
    · rename_i hl
      rw [if_neg hl]
      split at e
      · cases e
      · rename_i n hn
        rw [h l n hn]
        simp only
        cases hs : scanL rd k (l.drop n) with
        | none => rw [hs] at e; cases e
        | some ks' => rw [hs] at e; rw [ih hs]; exact e
theorem readT_mono {d : Nat} : ∀ {d' : Nat} {l : List UInt8} {n : Nat}, d ≤ d' → readT d l = some n → readT d' l = some n := by
  induction d with
  | zero => intro d' l n _ h; cases h
  | succ d ih =>
    intro d' l n hd h
    obtain ⟨d', rfl⟩ : ∃ e, d' = e + 1 := ⟨d' - 1, by omega⟩
    simp only [readT] at h ⊢
    split at h
    · cases h
    · rename_i hh hn
      split at h
      · rename_i hc; simp only [hc, if_true]; exact h
      · rename_i hc
        simp only [hc]
        split at h
        · cases h
        · rename_i ks hs
          rw [scanL_mono (fun l n => ih (d' := d') (by omega)) _ hs]
          simpa using h
theorem readT_app {d : Nat} {l : List UInt8} {n : Nat} (r : List UInt8) (h : readT d l = some n) : readT d (l ++ r) = some n := by
  cases d with
  | zero => cases h
  | succ d =>
    simp only [readT] at h ⊢
    split at h
    · cases h
    · rename_i hh hn
      obtain ⟨h1, h2⟩ := nextH_app r hn
      rw [h1]
      simp only [h2]
      exact h
theorem readT_take {d : Nat} {l : List UInt8} {n : Nat} (m : Nat) (h : readT d l = some n) (hm : n ≤ m) : readT d (l.take m) = some n := by
  cases d with
  | zero => cases h
  | succ d =>
    simp only [readT] at h ⊢
    split at h
    · cases h
    · rename_i hh hn
      have hb := nextH_ok hn
      have hsz : (hh.size + hh.len).toNat = n := by
        split at h
        · injection h
        · split at h
          · cases h
          · injection h
      obtain ⟨h1, h2⟩ := nextH_take m hn (by omega)
      rw [h1]
      simp only [h2]
      exact h
theorem treeOK_take {d : Nat} {l : List UInt8} {n : Nat} (h : readT d l = some n) : treeOK d (l.take n) := by
  have hb := readT_bound h
  unfold treeOK
  rw [readT_take n h (Nat.le_refl _)]
  simp
  omega
theorem treeOK_mono {d d' : Nat} {l : List UInt8} (hd : d ≤ d') (h : treeOK d l) : treeOK d' l := readT_mono hd h

theorem scanL_mem {d : Nat} : ∀ (k : Nat) {l : List UInt8} {ks : List (List UInt8)}, scanL (readT d) k l = some ks → ∀ p ∈ ks, treeOK d p := by
  intro k
  induction k with
  | zero =>
    intro l ks h
    simp only [scanL] at h
    split at h
    · cases h; simp
    · cases h
  | succ k ih =>
    intro l ks h
    simp only [scanL] at h
    split at h
    · cases h; simp
    · split at h
      · cases h
      · rename_i n hn
        cases hs : scanL (readT d) k (l.drop n) with
        | none => rw [hs] at h; cases h
        | some ks' =>
          rw [hs] at h
          cases h
          intro p hp
          simp only [List.mem_cons] at hp
          rcases hp with rfl | hp
          · exact treeOK_take hn
          · exact ih hs p hp
theorem scanL_of {d : Nat} : ∀ (ks : List (List UInt8)) (k : Nat), (∀ p ∈ ks, treeOK d p) → ks.flatten.length ≤ k → scanL (readT d) k ks.flatten = some ks := by
  intro ks
  induction ks with
  | nil => intro k _ _; cases k <;> simp [scanL]
  | cons p t ih =>
    intro k h hk
    have hp := h p (by simp)
    have hb := readT_bound hp
    rw [List.flatten_cons, List.length_append] at hk
    obtain ⟨k, rfl⟩ : ∃ k', k = k' + 1 := ⟨k - 1, by omega⟩
    have hne : p ++ t.flatten ≠ [] := by intro e; have := congrArg List.length e; simp at this; rw [this.1] at hb; simp at hb
    simp only [List.flatten_cons, scanL, hne, if_false]
    rw [readT_app _ hp]
    simp only [List.drop_left, List.take_left]
    rw [ih k (fun x hx => h x (by simp [hx])) (by omega)]
    rfl

/-- Octets of one element: the header, and that it is all. -/
theorem treeOK_hdr {d : Nat} {l : List UInt8} (h : treeOK d l) : ∃ hd, nextH l = .ok hd ∧ hd.size + hd.len = l.length ∧ encO hd.cls hd.con hd.num (cont l hd) = l := by
  unfold treeOK at h
  have hb := readT_bound h
  cases d with
  | zero => cases h
  | succ d =>
    simp only [readT] at h
    split at h
    · cases h
    · rename_i hd hn
      have hk := nextH_ok hn
      have hsz : (hd.size + hd.len).toNat = l.length := by
        split at h
        · injection h
        · split at h
          · cases h
          · injection h
      refine ⟨hd, hn, by omega, ?_⟩
      rw [nextH_canon hn, hsz, List.take_length]
theorem treeOK_one {d : Nat} {l : List UInt8} (h : treeOK d l) : ∃ x, oneE l = .ok x := by
  obtain ⟨hd, hn, hs, _⟩ := treeOK_hdr h
  rw [oneE_H, hn]
  simp only
  rw [if_neg (by omega)]
  exact ⟨_, rfl⟩

/-- A constructed element of trees is a tree. -/
theorem treeOK_con {d : Nat} (c n : Int) (ks : List (List UInt8)) (h : 0 ≤ c) (h1 : c ≤ 3) (h2 : 0 ≤ n) (h3 : n < 31) (hl : ks.flatten.length ≤ 2147483647) (hk : ∀ p ∈ ks, treeOK d p) : treeOK (d + 1) (encO c true n ks.flatten) := by
  have e1 := nextH_enc c n true ks.flatten [] h h1 h2 h3 hl
  have e2 := cont_enc c n true ks.flatten []
  have hL := encO_len c n true ks.flatten
  rw [List.append_nil] at e1 e2
  unfold treeOK
  simp only [readT, e1, e2]
  rw [if_neg (by simp), scanL_of ks _ hk (by omega)]
  simp only
  congr 1
  omega
theorem treeOK_prim {d : Nat} (c n : Int) (l : List UInt8) (h : 0 ≤ c) (h1 : c ≤ 3) (h2 : 0 ≤ n) (h3 : n < 31) (hl : l.length ≤ 2147483647) : treeOK (d + 1) (encO c false n l) := by
  have e1 := nextH_enc c n false l [] h h1 h2 h3 hl
  have hL := encO_len c n false l
  rw [List.append_nil] at e1
  unfold treeOK
  simp only [readT, e1, if_true]
  congr 1
  omega
/-- The elements inside. -/
def kidsT (d : Nat) (l : List UInt8) : List (List UInt8) := match nextH l with
  | .error _ => []
  | .ok h => if h.con = false then [] else (scanL (readT d) h.len.toNat (cont l h)).getD []
theorem kidsT_con {d : Nat} (c n : Int) (ks : List (List UInt8)) (h : 0 ≤ c) (h1 : c ≤ 3) (h2 : 0 ≤ n) (h3 : n < 31) (hl : ks.flatten.length ≤ 2147483647) (hk : ∀ p ∈ ks, treeOK d p) : kidsT d (encO c true n ks.flatten) = ks := by
  have e1 := nextH_enc c n true ks.flatten [] h h1 h2 h3 hl
  have e2 := cont_enc c n true ks.flatten []
  rw [List.append_nil] at e1 e2
  unfold kidsT
  simp only [e1, e2]
  rw [if_neg (by simp), scanL_of ks _ hk (by omega)]
  rfl

/-! ### Parts of an element. -/
theorem cov_segs {l : List UInt8} {e : Int} : ∀ {xs : List Elem} {a : Int}, 0 ≤ a → a ≤ e → e ≤ l.length → Cov l a e xs → (xs.map fun x => seg l x.start x.stop).flatten = seg l a e ∧ ∀ x ∈ xs, a ≤ x.start ∧ x.start < x.body ∧ x.body ≤ x.stop ∧ x.stop ≤ e ∧ oneE (seg l x.start x.stop) = .ok ⟨x.cls, x.num, x.con, 0, x.body - x.start, x.stop - x.start⟩ := by
  intro xs
  induction xs with
  | nil =>
    intro a _ _ _ h
    have : a = e := h
    subst this
    simp [seg]
  | cons x t ih =>
    intro a h0 h1 h2 h
    obtain ⟨hn, hlt, hc⟩ := h
    have hb := nextE_ok h0 h1 h2 hn
    obtain ⟨i1, i2⟩ := ih (by omega) (by omega) h2 hc
    refine ⟨?_, ?_⟩
    · rw [List.map_cons, List.flatten_cons, i1, hb.1]
      unfold seg
      rw [show (e - a).toNat = (x.stop - a).toNat + (e - x.stop).toNat by omega, List.take_add, List.drop_drop, show a.toNat + (x.stop - a).toNat = x.stop.toNat by omega]
    · intro y hy
      simp only [List.mem_cons] at hy
      rcases hy with rfl | hy
      · exact ⟨by omega, by omega, by omega, by omega, nextE_one h0 h1 h2 hn⟩
      · have := i2 y hy
        exact ⟨by omega, by omega, by omega, by omega, this.2.2.2.2⟩
theorem oneE_canon {l : List UInt8} {x : Elem} (h : oneE l = .ok x) : encO x.cls x.con x.num (seg l x.body x.stop) = l ∧ x.start = 0 ∧ x.stop = l.length ∧ 0 ≤ x.cls ∧ x.cls ≤ 3 ∧ 0 ≤ x.num ∧ x.num < 31 := by
  rw [oneE_H] at h
  split at h
  · cases h
  · rename_i hd hn
    have hb := nextH_ok hn
    have hr := rdHdr_ok (nextH_hdr hn).1
    split at h
    · cases h
    · injection h with h
      subst h
      simp only
      have hsz : hd.size + hd.len = l.length := by omega
      have := nextH_canon hn
      rw [hsz, Int.toNat_natCast, List.take_length] at this
      refine ⟨?_, by trivial, by trivial, hr.2.2.2.2.2.1, hr.2.2.2.2.2.2.1, hr.2.2.2.2.2.2.2.1, by omega⟩
      have e : seg l hd.size l.length = cont l hd := by
        unfold seg cont
        congr 1
        omega
      rw [e, this]
/-- The octets of the parts. -/
def segsE (l : List UInt8) (xs : List Elem) : List (List UInt8) := xs.map fun x => seg l x.start x.stop
theorem partsE_ok {l : List UInt8} {c n : Int} {xs : List Elem} (h : partsE l c n = .ok xs) :
    l = encO c true n (segsE l xs).flatten ∧ 0 ≤ c ∧ c ≤ 3 ∧ 0 ≤ n ∧ n < 31 ∧
      ∀ x ∈ xs, 0 ≤ x.start ∧ x.start < x.body ∧ x.body ≤ x.stop ∧ x.stop ≤ l.length ∧ oneE (seg l x.start x.stop) = .ok ⟨x.cls, x.num, x.con, 0, x.body - x.start, x.stop - x.start⟩ := by
  unfold partsE at h
  split at h
  · cases h
  · rename_i x hx
    have hc := oneE_canon hx
    have hb := oneE_ok hx
    split at h
    · rename_i his
      unfold isE at his
      simp only [Bool.and_eq_true, beq_iff_eq] at his
      obtain ⟨⟨i1, i2⟩, i3⟩ := his
      obtain ⟨h0, h1, h2, hcov⟩ := listE_cov h
      obtain ⟨s1, s2⟩ := cov_segs h0 h1 h2 hcov
      obtain ⟨c1, c2, c3, c4, c5, c6, c7⟩ := hc
      refine ⟨?_, by omega, by omega, by omega, by omega, fun y hy => ?_⟩
      · unfold segsE
        rw [s1, ← i1, ← i3]
        rw [i2] at c1
        exact c1.symm
      · have := s2 y hy
        exact ⟨by omega, by omega, by omega, by omega, this.2.2.2.2⟩
    · cases h
/-- Parts that are elements are found. -/
theorem partsE_enc (c n : Int) (ls : List (List UInt8)) (h : 0 ≤ c) (h1 : c ≤ 3) (h2 : 0 ≤ n) (h3 : n < 31) (hl : ls.flatten.length ≤ 2147483647) (hall : ∀ p ∈ ls, ∃ x, oneE p = .ok x) :
    ∃ xs, partsE (encO c true n ls.flatten) c n = .ok xs ∧ segsE (encO c true n ls.flatten) xs = ls := by
  obtain ⟨ys, hy, hyl⟩ := listE_enc c n true ls hall
  have h1' := oneE_enc c n true ls.flatten h h1 h2 h3 hl
  have hp : partsE (encO c true n ls.flatten) c n = .ok ys := by
    unfold partsE
    rw [h1']
    simp only [isE, beq_self_eq_true, Bool.and_self, if_true]
    exact hy
  refine ⟨ys, hp, ?_⟩
  obtain ⟨p1, _, _, _, _, p2⟩ := partsE_ok hp
  -- both are cut of the same octets, element by element
  have key : ∀ (as bs : List (List UInt8)), (∀ p ∈ as, ∃ x, oneE p = .ok x) → (∀ p ∈ bs, ∃ x, oneE p = .ok x) → as.flatten = bs.flatten → as = bs := by
    intro as
    induction as with
    | nil =>
      intro bs _ hb e
      cases bs with
      | nil => rfl
      | cons q t =>
        obtain ⟨x, hx⟩ := hb q (by simp)
        have := oneE_ok hx
        have e' := congrArg List.length e
        simp only [List.flatten_nil, List.flatten_cons, List.length_nil, List.length_append] at e'
        omega
    | cons p t ih =>
      intro bs ha hb e
      cases bs with
      | nil =>
        obtain ⟨x, hx⟩ := ha p (by simp)
        have := oneE_ok hx
        have e' := congrArg List.length e
        simp only [List.flatten_nil, List.flatten_cons, List.length_nil, List.length_append] at e'
        omega
      | cons q t' =>
        obtain ⟨x, hx⟩ := ha p (by simp)
        obtain ⟨y, hy'⟩ := hb q (by simp)
        obtain ⟨d1, r1, z1⟩ := oneE_hdr hx
        obtain ⟨d2, r2, z2⟩ := oneE_hdr hy'
        rw [List.flatten_cons, List.flatten_cons] at e
        have e1 := rdHdr_app t.flatten r1
        rw [e, rdHdr_app t'.flatten r2] at e1
        injection e1 with e1
        subst e1
        have hlen : p.length = q.length := by omega
        obtain ⟨e2, e3⟩ := List.append_inj e hlen
        rw [e2, ih t' (fun z hz => ha z (by simp [hz])) (fun z hz => hb z (by simp [hz])) e3]
  have hinj : (segsE (encO c true n ls.flatten) ys).flatten = ls.flatten := by
    have e1 := cont_enc c n true ls.flatten []
    have e2 := cont_enc c n true (segsE (encO c true n ls.flatten) ys).flatten []
    have hlen : (segsE (encO c true n ls.flatten) ys).flatten.length = ls.flatten.length := by
      have hn1 := nextH_enc c n true ls.flatten [] h h1 h2 h3 hl
      have hle : (segsE (encO c true n ls.flatten) ys).flatten.length ≤ 2147483647 := by
        have hL1 := encO_len c n true ls.flatten
        have hL2 := encO_len c n true (segsE (encO c true n ls.flatten) ys).flatten
        rw [← p1] at hL2
        have := lenOct_len (segsE (encO c true n ls.flatten) ys).flatten.length
        have := lenOct_len ls.flatten.length
        have b2 := oneE_ok h1'
        -- the length octets are those of the same header
        have hr := rdHdr_ok (nextH_hdr hn1).1
        have hx := oneE_canon h1'
        by_cases hbig : (segsE (encO c true n ls.flatten) ys).flatten.length ≤ 2147483647
        · exact hbig
        · exfalso
          have hfl : (segsE (encO c true n ls.flatten) ys).flatten.length ≤ ls.flatten.length := by
            unfold partsE at hp
            rw [h1'] at hp
            simp only [isE, beq_self_eq_true, Bool.and_self, if_true] at hp
            obtain ⟨g0, g1, g2, gc⟩ := listE_cov hp
            obtain ⟨s1, _⟩ := cov_segs g0 g1 g2 gc
            have hsl := seg_len _ _ _ g0 g1 g2
            rw [← s1] at hsl
            unfold segsE
            omega
          omega
      have hn2 := nextH_enc c n true (segsE (encO c true n ls.flatten) ys).flatten [] h h1 h2 h3 hle
      rw [← p1, hn1] at hn2
      injection hn2 with hn2
      injection hn2 with _ _ _ hn2 _
      omega
    rw [← p1, hlen, e1] at e2
    exact e2.symm
  exact key _ _ (fun p hp => by
    unfold segsE at hp
    simp only [List.mem_map] at hp
    obtain ⟨x, hx, rfl⟩ := hp
    exact ⟨_, (p2 x hx).2.2.2.2⟩) hall hinj
/-- The encoding of contents is that of no others. -/
theorem encO_inj {c n c' n' : Int} {k k' : Bool} {l l' : List UInt8} (h : 0 ≤ c) (h1 : c ≤ 3) (h2 : 0 ≤ n) (h3 : n < 31) (h' : 0 ≤ c') (h1' : c' ≤ 3) (h2' : 0 ≤ n') (h3' : n' < 31) (hl : l.length ≤ 2147483647) (hl' : l'.length ≤ 2147483647)
    (e : encO c k n l = encO c' k' n' l') : c = c' ∧ k = k' ∧ n = n' ∧ l = l' := by
  have a := nextH_enc c n k l [] h h1 h2 h3 hl
  have b := nextH_enc c' n' k' l' [] h' h1' h2' h3' hl'
  have a2 := cont_enc c n k l []
  have b2 := cont_enc c' n' k' l' []
  rw [e, b] at a
  injection a with a
  rw [e, ← a, b2] at a2
  injection a with i1 i2 i3 i4 i5
  exact ⟨i1.symm, i3.symm, i2.symm, a2.symm⟩
end Go.Cr
end

/- Nodes in memory. No program in sight. -/
section
set_option linter.unusedSimpArgs false
set_option linter.unusedVariables false
namespace Go.Cr
open Go.RowKit

/-- A row that lies in a block of which S holds. -/
def IsRS (S : Nat → Prop) (w : World) (v : Value) (k n : Nat) (xs : List Value) : Prop :=
  ∃ (A : Option Addr) (c : Nat), v = .slice A n c ∧ n ≤ c ∧ c ≤ maxLen ∧ xs.length = n * k ∧
    (0 < n → ∃ b off, A = some ⟨b, off, none⟩ ∧ b < w.heap.size ∧ S b ∧ ∀ j x, xs[j]? = some x → w.cell? ⟨b, off + j, none⟩ = some x)
section
variable {S S' : Nat → Prop} {w w' : World} {v : Value} {k n : Nat} {xs : List Value}
theorem IsRS.isR (h : IsRS S w v k n xs) : IsR w v k n xs := by
  obtain ⟨A, c, h1, h2, h3, h4, h5⟩ := h
  refine ⟨A, c, h1, h2, h3, h4, fun hn => ?_⟩
  obtain ⟨b, off, e, hb, _, hc⟩ := h5 hn
  exact ⟨b, off, e, hb, hc⟩
theorem IsRS.weak (h : IsRS S w v k n xs) (hs : ∀ b, b < w.heap.size → S b → S' b) : IsRS S' w v k n xs := by
  obtain ⟨A, c, h1, h2, h3, h4, h5⟩ := h
  refine ⟨A, c, h1, h2, h3, h4, fun hn => ?_⟩
  obtain ⟨b, off, e, hb, hS, hc⟩ := h5 hn
  exact ⟨b, off, e, hb, hs b hb hS, hc⟩
theorem IsRS.keep (h : IsRS S w v k n xs) (hsz : w.heap.size ≤ w'.heap.size) (hk : ∀ b, b < w.heap.size → S b → w'.heap[b]? = w.heap[b]?) : IsRS S w' v k n xs := by
  obtain ⟨A, c, h1, h2, h3, h4, h5⟩ := h
  refine ⟨A, c, h1, h2, h3, h4, fun hn => ?_⟩
  obtain ⟨b, off, e, hb, hS, hc⟩ := h5 hn
  exact ⟨b, off, e, by omega, hS, fun j x hj => (World.cell?_of_block (hk b hb hS)).trans (hc j x hj)⟩
theorem IsRS.of_own {base : Nat} {e : TypeId} (h : w.ownsRow base e k v n xs) : IsRS (fun b => base ≤ b) w v k n xs := by
  have hlt := h.lt
  obtain ⟨A, c, rfl, h2, h3, h4, h5⟩ := IsR.of_own h
  refine ⟨A, c, rfl, h2, h3, h4, fun hn => ?_⟩
  obtain ⟨b, off, rfl, hb, hc⟩ := h5 hn
  refine ⟨b, off, rfl, hb, ?_, hc⟩
  rcases h.2 with ⟨hv, _⟩ | ⟨g, cap, cur, hv, hg, _⟩
  · injection hv with hv _ _; cases hv
  · injection hv with hv _ _
    injection hv with hv
    injection hv with hv _ _
    omega
theorem IsRS.nil_ (S : Nat → Prop) (w : World) (k : Nat) : IsRS S w (.slice none 0 0) k 0 [] := ⟨none, 0, rfl, Nat.le_refl _, by decide, by simp, fun h => absurd h (by omega)⟩
end

/-- The cells are those of the node of bytes, whose rows lie in blocks of which S holds. -/
def IsNode (S : Nat → Prop) : Nat → World → List Value → List UInt8 → Prop
  | 0, _, _, _ => False
  | d + 1, w, cs, l => ∃ (h : Hdr) (v4 v5 : Value) (ks : List (List UInt8)) (xs : List Value), nextH l = .ok h ∧ h.size + h.len = l.length ∧ cs = [.int .i64 h.cls, .int .i64 h.num, .bool h.con, v4, v5] ∧
      IsRS S w v4 1 (if h.con then [] else cont l h).length (bCells (if h.con then [] else cont l h)) ∧ IsRS S w v5 5 ks.length xs ∧
      (if h.con then ks.flatten = cont l h else ks = []) ∧ ∀ j (hj : j < ks.length), treeOK d ks[j] ∧ IsNode S d w ((xs.drop (j * 5)).take 5) ks[j]
theorem IsNode.weak {S S' : Nat → Prop} : ∀ {d : Nat} {w : World} {cs : List Value} {l : List UInt8}, IsNode S d w cs l → (∀ b, b < w.heap.size → S b → S' b) → IsNode S' d w cs l := by
  intro d
  induction d with
  | zero => intro w cs l h _; exact h
  | succ d ih =>
    intro w cs l h hs
    obtain ⟨hd, v4, v5, ks, xs, h1, h2, h3, h4, h5, h6, h7⟩ := h
    exact ⟨hd, v4, v5, ks, xs, h1, h2, h3, h4.weak hs, h5.weak hs, h6, fun j hj => ⟨(h7 j hj).1, ih (h7 j hj).2 hs⟩⟩
theorem IsNode.keep {S : Nat → Prop} : ∀ {d : Nat} {w w' : World} {cs : List Value} {l : List UInt8}, IsNode S d w cs l → w.heap.size ≤ w'.heap.size → (∀ b, b < w.heap.size → S b → w'.heap[b]? = w.heap[b]?) → IsNode S d w' cs l := by
  intro d
  induction d with
  | zero => intro w w' cs l h _ _; exact h
  | succ d ih =>
    intro w w' cs l h hsz hk
    obtain ⟨hd, v4, v5, ks, xs, h1, h2, h3, h4, h5, h6, h7⟩ := h
    exact ⟨hd, v4, v5, ks, xs, h1, h2, h3, h4.keep hsz hk, h5.keep hsz hk, h6, fun j hj => ⟨(h7 j hj).1, ih (h7 j hj).2 hsz hk⟩⟩
theorem IsNode.below {S : Nat → Prop} {d : Nat} {w w' : World} {cs : List Value} {l : List UInt8} (h : IsNode S d w cs l) (hb : Below w.heap.size w w') : IsNode S d w' cs l :=
  h.keep hb.size fun b hlt _ => hb.block b hlt
theorem IsNode.shape {S : Nat → Prop} {d : Nat} {w : World} {cs : List Value} {l : List UInt8} (h : IsNode S d w cs l) :
    ∃ (c1 c2 : Int) (c3 : Bool) (a4 a5 : Option Addr) (n4 k4 n5 k5 : Nat), cs = [.int .i64 c1, .int .i64 c2, .bool c3, .slice a4 n4 k4, .slice a5 n5 k5] := by
  cases d with
  | zero => exact h.elim
  | succ d =>
    obtain ⟨hd, v4, v5, ks, xs, h1, h2, h3, ⟨A4, c4, rfl, _⟩, ⟨A5, c5, rfl, _⟩, _⟩ := h
    exact ⟨_, _, _, _, _, _, _, _, _, h3⟩

/-- Nodes one behind another. -/
def IsNodes (S : Nat → Prop) (d : Nat) (w : World) (xs : List Value) (ks : List (List UInt8)) : Prop := xs.length = ks.length * 5 ∧ ∀ j (hj : j < ks.length), treeOK d ks[j] ∧ IsNode S d w ((xs.drop (j * 5)).take 5) ks[j]
theorem IsNodes.nil_ (S : Nat → Prop) (d : Nat) (w : World) : IsNodes S d w [] [] := ⟨rfl, fun j hj => absurd hj (by simp)⟩
theorem IsNodes.snoc {S : Nat → Prop} {d : Nat} {w : World} {xs cs : List Value} {ks : List (List UInt8)} {p : List UInt8} (h : IsNodes S d w xs ks) (hp : IsNode S d w cs p) (ht : treeOK d p) (hl : cs.length = 5) : IsNodes S d w (xs ++ cs) (ks ++ [p]) := by
  obtain ⟨h1, h2⟩ := h
  refine ⟨by simp [h1, hl]; omega, fun j hj => ?_⟩
  simp only [List.length_append, List.length_cons, List.length_nil] at hj
  by_cases hlt : j < ks.length
  · rw [List.getElem_append_left hlt]
    refine ⟨(h2 j hlt).1, ?_⟩
    have e : ((xs ++ cs).drop (j * 5)).take 5 = (xs.drop (j * 5)).take 5 := by
      rw [List.drop_append_of_le_length (by omega), List.take_append_of_le_length (by simp; omega)]
    rw [e]
    exact (h2 j hlt).2
  · have hjk : j = ks.length := by omega
    subst hjk
    rw [List.getElem_append_right (Nat.le_refl _)]
    have e : ((xs ++ cs).drop (ks.length * 5)).take 5 = cs := by
      rw [← h1, List.drop_left, List.take_of_length_le (by omega)]
    rw [e]
    simpa using ⟨ht, hp⟩
theorem IsNodes.weak {S S' : Nat → Prop} {d : Nat} {w : World} {xs : List Value} {ks : List (List UInt8)} (h : IsNodes S d w xs ks) (hs : ∀ b, b < w.heap.size → S b → S' b) : IsNodes S' d w xs ks :=
  ⟨h.1, fun j hj => ⟨(h.2 j hj).1, (h.2 j hj).2.weak hs⟩⟩
theorem IsNodes.keep {S : Nat → Prop} {d : Nat} {w w' : World} {xs : List Value} {ks : List (List UInt8)} (h : IsNodes S d w xs ks) (hsz : w.heap.size ≤ w'.heap.size) (hk : ∀ b, b < w.heap.size → S b → w'.heap[b]? = w.heap[b]?) : IsNodes S d w' xs ks :=
  ⟨h.1, fun j hj => ⟨(h.2 j hj).1, (h.2 j hj).2.keep hsz hk⟩⟩
theorem IsNodes.below {S : Nat → Prop} {d : Nat} {w w' : World} {xs : List Value} {ks : List (List UInt8)} (h : IsNodes S d w xs ks) (hb : Below w.heap.size w w') : IsNodes S d w' xs ks := h.keep hb.size fun b hlt _ => hb.block b hlt
/-- Blocks from base on, but not one. -/
def But (base : Nat) (row : Option Nat) (b : Nat) : Prop := base ≤ b ∧ some b ≠ row
/-- Behind an append to the row. -/
theorem IsNodes.grown {d base : Nat} {w w' : World} {xs : List Value} {ks : List (List UInt8)} {v v' : Value} (h : IsNodes (But base v.ownBlock) d w xs ks) (hg : w.grownBy w' v.ownBlock) (hat : v'.ownBlock = v.ownBlock ∨ v'.ownBlock = some w.heap.size) : IsNodes (But base v'.ownBlock) d w' xs ks := by
  have h1 : IsNodes (But base v.ownBlock) d w' xs ks := h.keep hg.size fun b hlt hS => hg.block b hlt hS.2
  have h2 : IsNodes (fun b => But base v.ownBlock b ∧ b < w.heap.size) d w xs ks := h.weak fun b hlt hS => ⟨hS, hlt⟩
  have h3 : IsNodes (fun b => But base v.ownBlock b ∧ b < w.heap.size) d w' xs ks := h2.keep hg.size fun b hlt hS => hg.block b hlt hS.1.2
  refine h3.weak fun b hlt hS => ⟨hS.1.1, fun e => ?_⟩
  rcases hat with hat | hat
  · exact hS.1.2 (e.trans hat)
  · rw [hat] at e; injection e with e; omega
theorem IsNode.tree {S : Nat → Prop} {d : Nat} {w : World} {cs : List Value} {l : List UInt8} (h : IsNode S d w cs l) : treeOK d l := by
  cases d with
  | zero => exact h.elim
  | succ d =>
    obtain ⟨hd, v4, v5, ks, xs, h1, h2, h3, h4, h5, h6, h7⟩ := h
    have hk := nextH_ok h1
    unfold treeOK
    cases hc : hd.con with
    | false =>
      simp only [readT, h1, hc, if_true]
      congr 1
      omega
    | true =>
      rw [hc, if_pos rfl] at h6
      have hl := cont_len h1
      simp only [readT, h1, hc, Bool.true_eq_false, if_false]
      rw [← h6, scanL_of ks _ (fun p hp => by
        obtain ⟨j, hj, rfl⟩ := List.getElem_of_mem hp
        exact (h7 j hj).1) (by rw [h6]; omega)]
      simp only
      congr 1
      omega
end Go.Cr
end

/- Rows of owned byte slices: a slice of slices that grows by append. No program in sight. -/
section
set_option linter.unusedSimpArgs false
set_option linter.unusedVariables false
namespace Go.Cr
open Go.RowKit

/-- The cells are slices that read as the parts, in blocks of which S holds. -/
def PartsIn (S : Nat → Prop) (w : World) (xs : List Value) (ls : List (List UInt8)) : Prop := xs.length = ls.length ∧ ∀ j (hj : j < ls.length), IsRS S w (xs.getD j undef) 1 ls[j].length (bCells ls[j])
theorem PartsIn.nil_ (S : Nat → Prop) (w : World) : PartsIn S w [] [] := ⟨rfl, fun j hj => absurd hj (by simp)⟩
theorem PartsIn.snoc {S : Nat → Prop} {w : World} {xs : List Value} {ls : List (List UInt8)} {u : Value} {l : List UInt8} (h : PartsIn S w xs ls) (hu : IsRS S w u 1 l.length (bCells l)) : PartsIn S w (xs ++ [u]) (ls ++ [l]) := by
  obtain ⟨h1, h2⟩ := h
  refine ⟨by simp [h1], fun j hj => ?_⟩
  simp only [List.length_append, List.length_cons, List.length_nil] at hj
  by_cases hlt : j < ls.length
  · rw [List.getElem_append_left hlt]
    have e : (xs ++ [u]).getD j undef = xs.getD j undef := by simp only [List.getD_eq_getElem?_getD, List.getElem?_append_left (show j < xs.length by omega)]
    rw [e]
    exact h2 j hlt
  · have hjk : j = ls.length := by omega
    subst hjk
    rw [List.getElem_append_right (Nat.le_refl _)]
    have e : (xs ++ [u]).getD ls.length undef = u := by simp [← h1]
    rw [e]
    simpa using hu
theorem PartsIn.weak {S S' : Nat → Prop} {w : World} {xs : List Value} {ls : List (List UInt8)} (h : PartsIn S w xs ls) (hs : ∀ b, b < w.heap.size → S b → S' b) : PartsIn S' w xs ls := ⟨h.1, fun j hj => (h.2 j hj).weak hs⟩
theorem PartsIn.keep {S : Nat → Prop} {w w' : World} {xs : List Value} {ls : List (List UInt8)} (h : PartsIn S w xs ls) (hsz : w.heap.size ≤ w'.heap.size) (hk : ∀ b, b < w.heap.size → S b → w'.heap[b]? = w.heap[b]?) : PartsIn S w' xs ls := ⟨h.1, fun j hj => (h.2 j hj).keep hsz hk⟩
theorem PartsIn.below {S : Nat → Prop} {w w' : World} {xs : List Value} {ls : List (List UInt8)} (h : PartsIn S w xs ls) (hb : Below w.heap.size w w') : PartsIn S w' xs ls := h.keep hb.size fun b hlt _ => hb.block b hlt
theorem PartsIn.grown {base : Nat} {w w' : World} {xs : List Value} {ls : List (List UInt8)} {v v' : Value} (h : PartsIn (But base v.ownBlock) w xs ls) (hg : w.grownBy w' v.ownBlock) (hat : v'.ownBlock = v.ownBlock ∨ v'.ownBlock = some w.heap.size) : PartsIn (But base v'.ownBlock) w' xs ls := by
  have h2 : PartsIn (fun b => But base v.ownBlock b ∧ b < w.heap.size) w xs ls := h.weak fun b hlt hS => ⟨hS, hlt⟩
  have h3 : PartsIn (fun b => But base v.ownBlock b ∧ b < w.heap.size) w' xs ls := h2.keep hg.size fun b hlt hS => hg.block b hlt hS.1.2
  refine h3.weak fun b hlt hS => ⟨hS.1.1, fun e => ?_⟩
  rcases hat with hat | hat
  · exact hS.1.2 (e.trans hat)
  · rw [hat] at e; injection e with e; omega
/-- The slice v is the call's own row of own parts. -/
def OwP (w : World) (base : Nat) (e : TypeId) (v : Value) (ls : List (List UInt8)) : Prop := ∃ xs, w.ownsRow base e 1 v ls.length xs ∧ PartsIn (But base v.ownBlock) w xs ls
theorem OwP.nil_ (w : World) (base : Nat) (e : TypeId) : OwP w base e (.slice none 0 0) [] := ⟨[], World.ownsRow_nil _ _ _ _, PartsIn.nil_ _ _⟩
theorem OwP.below {w w' : World} {base : Nat} {e : TypeId} {v : Value} {ls : List (List UInt8)} (h : OwP w base e v ls) (hb : Below w.heap.size w w') : OwP w' base e v ls := by
  obtain ⟨xs, h1, h2⟩ := h
  exact ⟨xs, ownsRow_below h1 hb, h2.below hb⟩
theorem OwP.alloc {w : World} {base : Nat} {e : TypeId} {v : Value} {ls : List (List UInt8)} (h : OwP w base e v ls) (o : Obj) : OwP (w.alloc o) base e v ls := h.below ((Below.refl _ _).alloc (Nat.le_refl _) o)
theorem OwP.isBs {w : World} {base : Nat} {e : TypeId} {v : Value} {ls : List (List UInt8)} (h : OwP w base e v ls) : IsBs w v ls := by
  obtain ⟨xs, h1, h2⟩ := h
  refine ⟨xs, IsR.of_own h1, fun j hj => ?_⟩
  have := (h2.2 j hj).isR.bytes
  simpa [hj] using this
theorem OwP.slice {w : World} {base : Nat} {e : TypeId} {v : Value} {ls : List (List UInt8)} (h : OwP w base e v ls) : ∃ A c, v = .slice A ls.length c := by
  obtain ⟨xs, h1, _⟩ := h
  obtain ⟨A, c, h, _⟩ := IsR.of_own h1
  exact ⟨A, c, h⟩
/-- Bytes of a callee's own, seen from a row that is older. -/
theorem part_new {w W : World} {base : Nat} {t e : TypeId} {u v : Value} {l : List UInt8} {n : Nat} {xs : List Value} (h : OwB w W.heap.size t u l) (hb : base ≤ W.heap.size) (hv : W.ownsRow base e 1 v n xs) : IsRS (But base v.ownBlock) w u 1 l.length (bCells l) :=
  (IsRS.of_own h).weak fun b _ hS => ⟨by omega, fun he => by have := (hv.lt _ he.symm).2; omega⟩
section
variable {P : Program} (w : World)
/-- append(v, u), u a part. -/
theorem run_appP (base : Nat) (t ty e : TypeId) (ht : P.underlying t = some (.slice e)) (hinfo : (P.info? e).map (fun i => (i.zero, i.size, i.bytes)) = some (some (.slice none 0 0), 1, 24))
    (v : Value) (ls : List (List UInt8)) (hown : OwP w base e v ls) (x u : Value) (l : List UInt8) (hx : IsR w x 1 1 [u]) (hu : IsRS (But base v.ownBlock) w u 1 l.length (bCells l)) (hn : ls.length ≤ 1000000) (hbase : base ≤ w.heap.size) :
    ∃ v' w', (Builtin.append_ #[t, t] ty #[v, x]).run P w = .ok v' w' ∧ OwP w' base e v' (ls ++ [l]) ∧ Below base w w' ∧ w.grownBy w' v.ownBlock := by
  obtain ⟨i0, hi, hz0, hz1, hz2⟩ := info_parts hinfo
  obtain ⟨xs, h1, h2⟩ := hown
  have hone : ∀ y ∈ [u], y.oneCell' = true := by
    intro y hy
    simp at hy; subst hy
    obtain ⟨A, c, rfl, _⟩ := hu
    rfl
  obtain ⟨v', w', hr, g1, g2, g3, g4⟩ := run_app2 (P := P) w base t ty e i0 _ 1 24 ht hi hz0 hz1 hz2 rfl (by decide) v ls.length xs h1 x 1 [u] hx hone (by unfold maxLen; omega) (by omega) hbase
  refine ⟨v', w', hr, ⟨xs ++ [u], by rw [List.length_append]; exact g1, ?_⟩, g3, g2⟩
  exact (h2.snoc hu).grown g2 g4
theorem wpList_appP {ops : Array Oper} {rest : List Oper} {o : Oper} {a : Act} {Q : Exit → Act → World → Prop} (hgd : o.guard = none) (s y : Operand) (t : TypeId)
    (ho : o.op = .call { callee := .builtin .append, args := #[s, y], argTypes := #[t, t] })
    (base : Nat) (e : TypeId) (ht : P.underlying t = some (.slice e)) (hinfo : (P.info? e).map (fun i => (i.zero, i.size, i.bytes)) = some (some (.slice none 0 0), 1, 24))
    (v : Value) (ls : List (List UInt8)) (hs : a.eval s = v) (hown : OwP w base e v ls) (x u : Value) (l : List UInt8) (hyx : a.eval y = x) (hx : IsR w x 1 1 [u]) (hu : IsRS (But base v.ownBlock) w u 1 l.length (bCells l)) (hn : ls.length ≤ 1000000) (hbase : base ≤ w.heap.size)
    (h : ∀ v' w', OwP w' base e v' (ls ++ [l]) → Below base w w' → w.grownBy w' v.ownBlock → wpList P ops Q rest (a.put o.dst v') w') : wpList P ops Q (o :: rest) a w :=
  wpList_plain hgd fun _ hK => by
    obtain ⟨v', w', hr, h2, h3, h4⟩ := run_appP (P := P) w base t o.type e ht hinfo v ls hown x u l hx hu hn hbase
    unfold Oper.wp execOp
    simp only [ho, resolve, invoke, builtin, Sem.run_bind, Sem.run_pure, Result.andThen_ok, List.map_toArray, List.map_cons, List.map_nil, hs, hyx, hr]
    exact hK _ _ (h v' w' h2 h3 h4)
end
/-- An append as an operation of a drawing region: by its run equation. -/
theorem wp_appR {P : Program} {w : World} {o : Oper} {a : Act} {K : Act → World → Prop} {Q : Exit → Act → World → Prop} (s y : Operand) (t t' : TypeId)
    (ho : o.op = .call { callee := .builtin .append, args := #[s, y], argTypes := #[t, t'] }) (v x v' : Value) (w' : World) (hs : a.eval s = v) (hyx : a.eval y = x)
    (hr : (Builtin.append_ #[t, t'] o.type #[v, x]).run P w = .ok v' w') (h : K (a.put o.dst v') w') : Oper.wp P o a w K Q := by
  unfold Oper.wp execOp
  simp only [ho, resolve, invoke, builtin, Sem.run_bind, Sem.run_pure, Result.andThen_ok, List.map_toArray, List.map_cons, List.map_nil, hs, hyx, hr]
  exact h
end Go.Cr
end
