/- Elements of a part cover it, and each is found by itself. No program in sight. -/
import Derived.Test.YtecbphbnacbepaaSpecG
set_option linter.unusedSimpArgs false
set_option linter.unusedVariables false
namespace Go.Cr
open Go.RowKit

theorem rdLen_take {l : List UInt8} {n k : Int} (m : Nat) (h : rdLen l = .ok (n, k)) (hm : k ≤ m) : rdLen (l.take m) = .ok (n, k) := by
  have hb := rdLen_ok h
  have h0 := bat_lt l 0
  have h1 := bat_pos l 0
  unfold rdLen at h ⊢
  have e0 : bat (l.take m) 0 = bat l 0 := bat_take _ _ _ (by omega)
  have hL : (l.take m).length = min m l.length := List.length_take
  rw [e0]
  split at h
  · cases h
  rw [if_neg (by omega)]
  split at h
  · rename_i c2; rw [if_pos c2]; exact h
  rename_i c2
  rw [if_neg c2]
  split at h
  · cases h
  rename_i c3
  rw [if_neg c3]
  split at h
  · cases h
  rename_i c4
  split at h
  · cases h
  rename_i c5
  injection h with h
  injection h with h2 h3
  rw [if_neg (by omega)]
  have e1 : bat (l.take m) 1 = bat l 1 := bat_take _ _ _ (by omega)
  have e2 : ((l.take m).drop 1).take (bat l 0 - 128).toNat = (l.drop 1).take (bat l 0 - 128).toNat := by
    rw [List.drop_take, List.take_take, Nat.min_eq_left (by omega)]
  rw [e1, e2, if_neg c5, h2, h3]
theorem rdHdr_take {l : List UInt8} {h : Hdr} (m : Nat) (e : rdHdr l = .ok h) (hm : h.size ≤ m) : rdHdr (l.take m) = .ok h := by
  have hb := rdHdr_ok e
  have e0 : bat (l.take m) 0 = bat l 0 := bat_take _ _ _ (by omega)
  have hL : (l.take m).length = min m l.length := List.length_take
  unfold rdHdr at e ⊢
  rw [e0]
  split at e
  · cases e
  rw [if_neg (by omega)]
  split at e
  · cases e
  rename_i c2
  rw [if_neg c2]
  split at e
  · cases e
  · rename_i n k hr
    injection e with e
    subst e
    have := rdLen_take (m - 1) hr (by simp only at hm; omega)
    rw [List.drop_take, this]
/-- An element that was found is found by itself. -/
theorem nextE_one {l : List UInt8} {a e : Int} {x : Elem} (h0 : 0 ≤ a) (h1 : a ≤ e) (h2 : e ≤ l.length) (h : nextE l a e = .ok x) :
    oneE (seg l x.start x.stop) = .ok ⟨x.cls, x.num, x.con, 0, x.body - x.start, x.stop - x.start⟩ := by
  have hbd := nextE_ok h0 h1 h2 h
  unfold nextE at h
  split at h
  · cases h
  rename_i hd hr
  split at h
  · cases h
  injection h with h
  subst h
  have hb := rdHdr_ok hr
  simp only [Hdr.at_] at hbd ⊢
  have hs : seg l a (a + hd.size + hd.len) = (seg l a e).take (a + hd.size + hd.len - a).toNat := by
    unfold seg
    rw [List.take_take, Nat.min_eq_left (by omega)]
  have hlen := seg_len l a (a + hd.size + hd.len) h0 (by omega) (by omega)
  have hr' := rdHdr_take (a + hd.size + hd.len - a).toNat hr (by omega)
  rw [← hs] at hr'
  generalize seg l a (a + hd.size + hd.len) = s at *
  rw [oneE_H]
  unfold nextH
  rw [hr']
  simp only
  rw [if_neg (by omega)]
  simp only
  rw [if_neg (by omega)]
  congr 2 <;> omega
/-- The elements cover the octets from a up to e. -/
def Cov (l : List UInt8) : Int → Int → List Elem → Prop
  | a, e, [] => a = e
  | a, e, x :: xs => nextE l a e = .ok x ∧ a < e ∧ Cov l x.stop e xs
theorem listAcc_cov {l : List UInt8} : ∀ (k : Nat) {acc : List Elem} {a e : Int} {xs : List Elem}, 0 ≤ a → a ≤ e → e ≤ l.length → e - a ≤ k → listAcc l k acc a e = .ok xs → ∃ ys, xs = acc ++ ys ∧ Cov l a e ys := by
  intro k
  induction k with
  | zero =>
    intro acc a e xs _ _ _ hk h
    simp only [listAcc] at h
    injection h with h
    exact ⟨[], by simp [h], by show a = e; omega⟩
  | succ k ih =>
    intro acc a e xs h0 h1 h2 hk h
    simp only [listAcc] at h
    split at h
    · rename_i hlt
      split at h
      · cases h
      · rename_i x hr
        have hb := nextE_ok h0 h1 h2 hr
        obtain ⟨ys, hys, hc⟩ := ih (by omega) (by omega) h2 (by omega) h
        exact ⟨x :: ys, by simp [hys], hr, hlt, hc⟩
    · injection h with h
      exact ⟨[], by simp [h], by show a = e; omega⟩
theorem listE_cov {l : List UInt8} {a e : Int} {xs : List Elem} (h : listE l a e = .ok xs) : 0 ≤ a ∧ a ≤ e ∧ e ≤ l.length ∧ Cov l a e xs := by
  unfold listE at h
  split at h
  · cases h
  · obtain ⟨ys, hys, hc⟩ := listAcc_cov _ (by omega) (by omega) (by omega) (by omega) h
    simp at hys
    subst hys
    exact ⟨by omega, by omega, by omega, hc⟩
theorem cov_cons {l : List UInt8} {a e : Int} {xs : List Elem} {k : Nat} (hk : k < xs.length) (h : Cov l a e (xs.drop k)) : nextE l a e = .ok xs[k] ∧ a < e ∧ Cov l xs[k].stop e (xs.drop (k + 1)) := by
  rw [List.drop_eq_getElem_cons hk] at h
  exact h
theorem cov_len {l : List UInt8} {a e : Int} {xs : List Elem} (h0 : 0 ≤ a) (h1 : a ≤ e) (h2 : e ≤ l.length) (h : Cov l a e xs) : (xs.length : Int) ≤ e - a := by
  induction xs generalizing a with
  | nil => simp; omega
  | cons x xs ih =>
    obtain ⟨hn, hlt, hc⟩ := h
    have hb := nextE_ok h0 h1 h2 hn
    have := ih (by omega) (by omega) hc
    simp; omega
end Go.Cr
