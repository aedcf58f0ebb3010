/- The parts DnK, DnS of one proof, one behind the other. -/
import Derived.Test.YtlmnmgokfnnbbaaGreatDoorL34
import Derived.Test.YtlmnmgokfnnbbaaGreatDoorL35

/- What the laws of chapter 12 lean on. -/
section
set_option linter.unusedSimpArgs false
set_option linter.unusedVariables false
namespace Go.Cr
open Go.RowKit Go.Proofs.YtlmnmgokfnnbbaaGreatDoor
theorem optX_flat {r : Rdn} {ps : List (List UInt8)} (h : optL marX r = some ps) (hs : ∀ a ∈ r, a.1.size ≤ 200) : ps.flatten.length ≤ sumV r + 1025 * r.length := by
  induction r generalizing ps with
  | nil => injection h with h; subst h; simp
  | cons a t ih =>
    obtain ⟨y, u, h1, h2, rfl⟩ := optL_cons h
    have h3 := ih h2 (fun x hx => hs x (by simp [hx]))
    obtain ⟨c, hc, hy⟩ := marX_le h1
    have h4 := oidE_len hc
    have h5 := hs a (by simp)
    have h6 : a.1.data.toList.length = a.1.size := rfl
    have h7 : sumV (a :: t) = a.2.length + sumV t := by simp [sumV]
    simp only [List.flatten_cons, List.length_append, List.length_cons, Nat.mul_add]
    omega
theorem FwR.flat {r : Rdn} (h : FwR r) {ps : List (List UInt8)} (ho : optL marX r = some ps) : ps.flatten.length ≤ sumV r + 8200 := by
  have h1 := optX_flat ho (fun a ha => (h.2.1 a ha).1)
  have h2 := h.1
  omega
theorem FwR.marl {r : Rdn} (h : FwR r) {y : List UInt8} (hm : marR r = some y) : y.length ≤ sumV r + 8210 := by
  obtain ⟨ps, ho, _, _, rfl⟩ := marR_some hm
  have h1 := h.flat ho
  have h2 := encO_leD 0 17 true ps.flatten
  unfold conB
  omega
theorem FwR.sz {r : Rdn} (h : FwR r) : SzR r := by
  refine ⟨by have := h.1; omega, fun a ha => ?_, fun ps ho => ?_⟩
  · have := h.2.1 a ha
    unfold FewA at this
    omega
  · have h1 := h.flat ho
    have h2 := h.2.2
    omega
theorem FwR.lenM {r : Rdn} (h : FwR r) {y : List UInt8} (hm : marR r = some y) : y.length ≤ 85000 := by
  have h1 := h.marl hm
  have h2 := h.2.2
  omega
theorem optR_flat {n : Nam} {ps : List (List UInt8)} (h : optL marR n = some ps) (hs : ∀ r ∈ n, FwR r) : ps.flatten.length ≤ sumN n + 8210 * n.length := by
  induction n generalizing ps with
  | nil => injection h with h; subst h; simp
  | cons r t ih =>
    obtain ⟨y, u, h1, h2, rfl⟩ := optL_cons h
    have h3 := ih h2 (fun x hx => hs x (by simp [hx]))
    have h4 := (hs r (by simp)).marl h1
    have h7 : sumN (r :: t) = sumV r + sumN t := by simp [sumN]
    simp only [List.flatten_cons, List.length_append, List.length_cons, Nat.mul_add]
    omega
theorem FwNm.flat {n : Nam} (h : FwNm n) {ps : List (List UInt8)} (ho : optL marR n = some ps) : ps.flatten.length ≤ 84100 := by
  have h1 := optR_flat ho h.2.1
  have h2 := h.1
  have h3 := h.2.2
  omega
theorem FwNm.sz {n : Nam} (h : FwNm n) : SzNm n := ⟨by have := h.1; omega, fun r hr => (h.2.1 r hr).sz, fun ps ho => by have := h.flat ho; omega⟩
theorem FwNm.lenM {n : Nam} (h : FwNm n) {y : List UInt8} (hm : marNm n = some y) : y.length ≤ 85000 := by
  obtain ⟨ps, ho, rfl⟩ := marNm_some hm
  have h1 := h.flat ho
  have h2 := encO_leD 0 16 true ps.flatten
  unfold conB
  omega
end Go.Cr
namespace Go.Proofs.YtlmnmgokfnnbbaaGreatDoor
open Go.RowKit Go.Cr
theorem isQs_nil (w : World) : IsQs w (.slice none 0 0) [] := ⟨[], ⟨none, 0, rfl, Nat.le_refl _, by decide, rfl, fun h => absurd h (by simp)⟩, fun j h => absurd h (by simp)⟩
def RetPn (L : Nat) (w : World) (e : Ending) (w' : World) : Prop := ∃ ec eo : Int, 0 < ec ∧ 0 ≤ eo ∧ eo ≤ L ∧ e = .returned (.tuple #[.slice none 0 0, errV (ec, eo)]) ∧ Below w.heap.size w w'
def RetPyR (r : Rdn) (w : World) (e : Ending) (w' : World) : Prop := ∃ A k, e = .returned (.tuple #[.slice A r.length k, errV (0, 0)]) ∧ IsQs w' (.slice A r.length k) r ∧ Below w.heap.size w w'
def RetPyN (r : Nam) (w : World) (e : Ending) (w' : World) : Prop := ∃ A k, e = .returned (.tuple #[.slice A r.length k, errV (0, 0)]) ∧ IsNm w' (.slice A r.length k) r ∧ Below w.heap.size w w'
theorem RetPR.yes {r : Rdn} {L : Nat} {w w' : World} {e : Ending} (h : RetPR (some r) L w e w') : RetPyR r w e w' := by
  obtain ⟨hb, A, k, he, ho⟩ := h
  exact ⟨A, k, he, isAs_of ho.isL, hb⟩
theorem RetPR.no {L : Nat} {w w' : World} {e : Ending} (h : RetPR none L w e w') : RetPn L w e w' := by
  obtain ⟨hb, ec, eo, h1, h2, h3, he⟩ := h
  exact ⟨ec, eo, h1, h2, h3, he, hb⟩
theorem RetPNm.yes {r : Nam} {L : Nat} {w w' : World} {e : Ending} (h : RetPNm (some r) L w e w') : RetPyN r w e w' := by
  obtain ⟨hb, A, k, he, ho⟩ := h
  exact ⟨A, k, he, isNm_of ho.isL, hb⟩
theorem RetPNm.no {L : Nat} {w w' : World} {e : Ending} (h : RetPNm none L w e w') : RetPn L w e w' := by
  obtain ⟨hb, ec, eo, h1, h2, h3, he⟩ := h
  exact ⟨ec, eo, h1, h2, h3, he, hb⟩
def RetRyR (r : Rdn) (w : World) (e : Ending) (w' : World) : Prop := ∃ A k, e = .returned (.tuple #[.slice A r.length k, .bool true]) ∧ IsQs w' (.slice A r.length k) r ∧ Below w.heap.size w w'
def RetRyN (r : Nam) (w : World) (e : Ending) (w' : World) : Prop := ∃ A k, e = .returned (.tuple #[.slice A r.length k, .bool true]) ∧ IsNm w' (.slice A r.length k) r ∧ Below w.heap.size w w'
theorem RetDr.yes {r : Rdn} {w w' : World} {e : Ending} (h : RetDr (some r) w e w') : RetRyR r w e w' := by
  obtain ⟨hb, A, k, he, ho⟩ := h
  exact ⟨A, k, he, ho, hb⟩
theorem RetDr.no {w w' : World} {e : Ending} (h : RetDr none w e w') : RetB (.tuple #[.slice none 0 0, .bool false]) w e w' := ⟨h.2, h.1⟩
theorem RetDn.yes {r : Nam} {w w' : World} {e : Ending} (h : RetDn (some r) w e w') : RetRyN r w e w' := by
  obtain ⟨hb, A, k, he, ho⟩ := h
  exact ⟨A, k, he, ho, hb⟩
theorem RetDn.no {w w' : World} {e : Ending} (h : RetDn none w e w') : RetB (.tuple #[.slice none 0 0, .bool false]) w e w' := ⟨h.2, h.1⟩
theorem szN_par {b : List UInt8} {r : Nam} (hL : b.length ≤ 4000) (h : parNm b = some r) : SzNm r := by
  have h1 := rparNm_eq (b := b) (by omega)
  rw [h] at h1
  unfold rparNm at h1
  split at h1
  · injection h1 with h1; rw [← h1]; exact szN_rd hL
  · cases h1
end Go.Proofs.YtlmnmgokfnnbbaaGreatDoor
end

/- How great an RDN, a name can be whose encoding is not great. -/
section
set_option linter.unusedSimpArgs false
set_option linter.unusedVariables false
namespace Go.Proofs.YtlmnmgokfnnbbaaGreatDoor
open Go.RowKit Go.Cr
theorem b128_low2 : ∀ (k n : Nat) (l : Bool), n < 128 ^ (k + 1) → n < 128 ^ (b128 k n l).length
  | 0, n, l, h => by simpa [b128] using h
  | k + 1, n, l, h => by
    simp only [b128]
    split
    · rename_i h1; simpa using h1
    · have h2 : n / 128 < 128 ^ (k + 1) := by
        rw [Nat.pow_succ] at h
        omega
      have h3 := b128_low2 k (n / 128) false h2
      rw [List.length_append, List.length_singleton, Nat.pow_succ]
      omega
theorem nd_le : ∀ (j n : Nat), n < 10 ^ (j + 1) → Lib.nDigits n ≤ j + 1
  | 0, n, h => by rw [Lib.nDigits_small (by simpa using h)]; omega
  | j + 1, n, h => by
    by_cases hn : n < 10
    · rw [Lib.nDigits_small hn]; omega
    · rw [Lib.nDigits_big hn]
      have := nd_le j (n / 10) (by rw [Nat.pow_succ] at h; omega)
      omega
theorem dec_three {n : Nat} (h : n < 128 ^ 5) : (Lib.decDigits n).length ≤ 3 * (subL n).length := by
  have h1 := b128_low2 4 n true h
  have h0 := sub_len n
  unfold subL at h0 ⊢
  generalize (b128 4 n true).length = L at *
  obtain ⟨j, rfl⟩ : ∃ j, L = j + 1 := ⟨L - 1, by omega⟩
  rw [Lib.decDigits_length]
  have h2 : (128 : Nat) ^ (j + 1) ≤ 1000 ^ (j + 1) := Nat.pow_le_pow_left (by decide) _
  have h3 : (1000 : Nat) ^ (j + 1) = 10 ^ (3 * j + 2 + 1) := by
    rw [show (1000 : Nat) = 10 ^ 3 by rfl, ← Nat.pow_mul]
    congr 1
  have := nd_le (3 * j + 2) n (by omega)
  omega
theorem flat_three : ∀ (t : List Nat), (∀ n ∈ t, n ≤ 4294967295) → (t.map Lib.decDigits).flatten.length + t.length ≤ 4 * (t.flatMap subL).length
  | [], _ => by simp
  | x :: t, h => by
    have h1 := dec_three (n := x) (Nat.lt_of_le_of_lt (h x (by simp)) (by decide))
    have h2 := flat_three t fun n hn => h n (by simp [hn])
    have h3 := sub_len x
    simp only [List.map_cons, List.flatten_cons, List.length_append, List.flatMap_cons, List.length_cons] at h2 ⊢
    omega
theorem oidD_four {c s : List UInt8} (h : oidD c = some s) : s.length ≤ 4 * c.length + 6 := by
  have he := (oid_iff _ _).1 h
  unfold oidE at he
  cases ha : arcsL s with
  | none => rw [ha] at he; cases he
  | some ns =>
    rw [ha] at he
    injection he with he
    obtain ⟨h1, h2, h3⟩ := arcsL_some ha
    subst he
    rw [← h1]
    match ns, h2, h3 with
    | [], h2, _ => simp [textL, Lib.join_nil]
    | [a], h2, h3 =>
      have h4 := flat_three [a] h3
      have h5 := join_len ([a].map Lib.decDigits) (by simp)
      have e1 : textL [a] = Lib.join ([a].map Lib.decDigits) [46] := rfl
      have e2 : encL [a] = [a].flatMap subL := rfl
      rw [e1, e2]
      simp only [List.length_map, List.length_cons, List.length_nil] at h4 h5 ⊢
      omega
    | a :: b :: t, h2, h3 =>
      have h4 := flat_three t fun n hn => h3 n (by simp [hn])
      have h5 := join_len ((a :: b :: t).map Lib.decDigits) (by simp)
      have e1 : textL (a :: b :: t) = Lib.join ((a :: b :: t).map Lib.decDigits) [46] := rfl
      have e2 : encL (a :: b :: t) = subL (40 * a + b) ++ t.flatMap subL := rfl
      have ha2 : a ≤ 2 := by
        unfold rightL at h2
        simp at h2
        omega
      have hb2 := h3 b (by simp)
      have h6 := dec_three (n := 40 * a + b) (Nat.lt_of_le_of_lt (show 40 * a + b ≤ 4294967375 by omega) (by decide))
      have h7 := dec_mono b (40 * a + b) (by omega)
      have h8 : (Lib.decDigits a).length = 1 := by rw [Lib.decDigits_length, Lib.nDigits_small (by omega)]
      have h9 := sub_len (40 * a + b)
      rw [e1, e2]
      simp only [List.map_cons, List.flatten_cons, List.length_append, List.length_cons, List.length_map] at h5 ⊢
      omega
theorem optL_min {α : Type} {f : α → Option (List UInt8)} : ∀ {l : List α} {ps : List (List UInt8)}, optL f l = some ps → (∀ a ∈ l, ∀ y, f a = some y → 2 ≤ y.length) → 2 * l.length ≤ ps.flatten.length
  | [], ps, ho, _ => by simp
  | x :: t, ps, ho, hb => by
    obtain ⟨b, u, h1, h2, rfl⟩ := optL_cons ho
    have h3 := hb x (by simp) b h1
    have h4 := optL_min h2 fun k hk => hb k (by simp [hk])
    simp only [List.flatten_cons, List.length_append, List.length_cons] at *
    omega
theorem enc_two (c n : Int) (k : Bool) (l : List UInt8) : 2 ≤ (encO c k n l).length ∧ l.length ≤ (encO c k n l).length := by
  rw [encO_len]
  have := (lenOct_len l.length).1
  omega
theorem szR_of {r : Rdn} {ps : List (List UInt8)} (ho : optL marX r = some ps) (hl : ps.flatten.length ≤ 20000) : SzR r := by
  have hm := optL_min ho fun a _ y hy => by obtain ⟨c, _, _, hb⟩ := marA_some hy; rw [hb]; exact (enc_two _ _ _ _).1
  refine ⟨by omega, fun a ha => ?_, fun qs hq => by rw [ho] at hq; injection hq with hq; subst hq; omega⟩
  obtain ⟨j, hj, rfl⟩ := List.getElem_of_mem ha
  have hj2 : j < ps.length := by rw [optL_len ho]; exact hj
  have hy := optL_at ho j hj hj2
  have hmf := mem_flat_len (List.getElem_mem hj2)
  obtain ⟨c, hc, _, hb⟩ := marA_some hy
  have h1 := (enc_two 0 16 true (encO 0 false 6 c ++ r[j].2)).2
  have h2 := (enc_two 0 6 false c).2
  rw [← hb, List.length_append] at h1
  have h3 := oidD_four ((oid_iff _ _).2 hc)
  have h4 : r[j].1.data.toList.length = r[j].1.size := rfl
  omega
theorem szR_chg {b : List UInt8} {r : Rdn} (hL : b.length ≤ 20000) (h : parR b = some r) : SzR r := by
  obtain ⟨ps, ho, _, _, hb⟩ := marR_some (parR_mar h)
  have := conB_len 17 ps
  rw [← hb] at this
  exact szR_of ho (by omega)
theorem szN_chg {b : List UInt8} {n : Nam} (hL : b.length ≤ 20000) (h : parNm b = some n) : SzNm n := by
  obtain ⟨ps, ho, hb⟩ := marNm_some (parNm_mar h)
  have hf := conB_len 16 ps
  rw [← hb] at hf
  have hm := optL_min ho fun a _ y hy => by obtain ⟨qs, _, _, _, e⟩ := marR_some hy; rw [e]; exact (enc_two _ _ _ _).1
  refine ⟨by omega, fun r hr => ?_, fun qs hq => by rw [ho] at hq; injection hq with hq; subst hq; omega⟩
  obtain ⟨j, hj, rfl⟩ := List.getElem_of_mem hr
  have hj2 : j < ps.length := by rw [optL_len ho]; exact hj
  have hy := optL_at ho j hj hj2
  have hmf := mem_flat_len (List.getElem_mem hj2)
  obtain ⟨qs, hq, _, _, e⟩ := marR_some hy
  have := conB_len 17 qs
  rw [← e] at this
  exact szR_of hq (by omega)
theorem optX_tight {r : Rdn} {ps : List (List UInt8)} (h : optL marX r = some ps) (hs : ∀ a ∈ r, a.1.size ≤ 200) : ps.flatten.length ≤ sumV r + 220 * r.length := by
  induction r generalizing ps with
  | nil => injection h with h; subst h; simp
  | cons a t ih =>
    obtain ⟨y, u, h1, h2, rfl⟩ := optL_cons h
    have h3 := ih h2 (fun x hx => hs x (by simp [hx]))
    obtain ⟨c, hc, hy⟩ := marX_le h1
    have h4 := oidE_le hc
    have h5 := hs a (by simp)
    have h6 : a.1.data.toList.length = a.1.size := rfl
    have h7 : sumV (a :: t) = a.2.length + sumV t := by simp [sumV]
    simp only [List.flatten_cons, List.length_append, List.length_cons, Nat.mul_add]
    omega
theorem tightR {r : Rdn} (h : FwR r) {y : List UInt8} (hm : marR r = some y) : y.length ≤ sumV r + 1770 := by
  obtain ⟨ps, ho, _, _, rfl⟩ := marR_some hm
  have h1 := optX_tight ho (fun a ha => (h.2.1 a ha).1)
  have h2 := encO_leD 0 17 true ps.flatten
  have h3 := h.1
  unfold conB
  omega
theorem tightR_len {r : Rdn} (h : FwR r) {y : List UInt8} (hm : marR r = some y) : y.length ≤ 20000 := by
  have := tightR h hm
  have := h.2.2
  omega
theorem optR_tight {n : Nam} {ps : List (List UInt8)} (h : optL marR n = some ps) (hs : ∀ r ∈ n, FwR r) : ps.flatten.length ≤ sumN n + 1770 * n.length := by
  induction n generalizing ps with
  | nil => injection h with h; subst h; simp
  | cons r t ih =>
    obtain ⟨y, u, h1, h2, rfl⟩ := optL_cons h
    have h3 := ih h2 (fun x hx => hs x (by simp [hx]))
    have h4 := tightR (hs r (by simp)) h1
    have h7 : sumN (r :: t) = sumV r + sumN t := by simp [sumN]
    simp only [List.flatten_cons, List.length_append, List.length_cons, Nat.mul_add]
    omega
theorem tightN_len {n : Nam} (h : FwNm n) {y : List UInt8} (hm : marNm n = some y) : y.length ≤ 20000 := by
  obtain ⟨ps, ho, rfl⟩ := marNm_some hm
  have h1 := optR_tight ho h.2.1
  have h2 := encO_leD 0 16 true ps.flatten
  have h3 := h.1
  have h4 := h.2.2
  unfold conB
  omega
theorem two_R {r : Rdn} {c : List UInt8} (h : marR r = some c) : 2 ≤ c.length := by
  obtain ⟨ps, _, _, _, rfl⟩ := marR_some h
  exact (enc_two _ _ _ _).1
theorem two_N {r : Nam} {c : List UInt8} (h : marNm r = some c) : 2 ≤ c.length := by
  obtain ⟨ps, _, rfl⟩ := marNm_some h
  exact (enc_two _ _ _ _).1
theorem isQs_none {W : World} {A : Option Addr} {c : Nat} (hc : c ≤ maxLen) : IsQs W (.slice A 0 c) [] := ⟨[], ⟨A, c, rfl, Nat.zero_le _, hc, rfl, fun h => absurd h (by simp)⟩, fun j h => absurd h (by simp)⟩
theorem isNm_none {W : World} {A : Option Addr} {c : Nat} (hc : c ≤ maxLen) : IsNm W (.slice A 0 c) [] := ⟨[], ⟨A, c, rfl, Nat.zero_le _, hc, rfl, fun h => absurd h (by simp)⟩, fun j h => absurd h (by simp)⟩
end Go.Proofs.YtlmnmgokfnnbbaaGreatDoor
end
