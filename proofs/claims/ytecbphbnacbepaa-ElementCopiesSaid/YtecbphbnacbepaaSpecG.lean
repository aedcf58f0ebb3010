/- The reference's way to an element. No program in sight. -/
import Derived.Test.YtecbphbnacbepaaSpecE
set_option linter.unusedSimpArgs false
set_option linter.unusedVariables false
namespace Go.Cr
open Go.RowKit

/-- The header at the beginning, if its contents are there. -/
def nextH (l : List UInt8) : Except Err Hdr :=
  match rdHdr l with
  | .error e => .error e
  | .ok h => if (l.length : Int) - h.size < h.len then .error (1, l.length) else .ok h
theorem nextH_err {l : List UInt8} {c o : Int} (h : nextH l = .error (c, o)) : 0 < c ∧ c ≤ 4 ∧ 0 ≤ o ∧ o ≤ l.length := by
  unfold nextH at h
  split at h
  · rename_i hr; injection h with h; subst h; exact rdHdr_err hr
  · split at h
    · injection h with h; injection h with h1 h2; omega
    · cases h
theorem nextH_ok {l : List UInt8} {h : Hdr} (e : nextH l = .ok h) : 0 ≤ h.len ∧ 2 ≤ h.size ∧ h.size ≤ 6 ∧ h.size + h.len ≤ l.length := by
  unfold nextH at e
  split at e
  · cases e
  · rename_i hr
    have := rdHdr_ok hr
    split at e
    · cases e
    · injection e with e; subst e; omega
theorem nextE_H (l : List UInt8) (a e : Int) (h0 : 0 ≤ a) (h1 : a ≤ e) (h2 : e ≤ l.length) :
    nextE l a e = match nextH (seg l a e) with
      | .error (c, o) => .error (c, o + a)
      | .ok h => .ok (h.at_ a) := by
  have hl := seg_len l a e h0 h1 h2
  unfold nextE nextH
  cases rdHdr (seg l a e) with
  | error er => rfl
  | ok h =>
    simp only
    rw [hl]
    by_cases hc : e - a - h.size < h.len
    · rw [if_pos hc, if_pos hc]; simp only; congr 2; omega
    · rw [if_neg hc, if_neg hc]
theorem seg_all (l : List UInt8) : seg l 0 l.length = l := by simp [seg]
theorem oneE_H (l : List UInt8) :
    oneE l = match nextH l with
      | .error e => .error e
      | .ok h => if h.size + h.len < l.length then .error (2, h.size + h.len) else .ok ⟨h.cls, h.num, h.con, 0, h.size, l.length⟩ := by
  unfold oneE
  rw [nextE_H l 0 l.length (by omega) (by omega) (by omega), seg_all]
  cases hn : nextH l with
  | error er => obtain ⟨c, o⟩ := er; simp
  | ok h =>
    have := nextH_ok hn
    have hst : (h.at_ 0).stop = h.size + h.len := by simp only [Hdr.at_]; omega
    simp only [hst]
    by_cases hc : h.size + h.len < l.length
    · rw [if_pos hc, if_pos hc]
    · rw [if_neg hc, if_neg hc]; simp only [Hdr.at_]; congr 2 <;> omega
end Go.Cr
