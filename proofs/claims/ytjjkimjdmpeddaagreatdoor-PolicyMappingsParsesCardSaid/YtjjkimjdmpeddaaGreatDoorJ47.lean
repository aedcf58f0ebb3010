/- The parts EachP of one proof, one behind the other. -/
import Derived.Test.YtjjkimjdmpeddaaGreatDoorJ06

/- Elements of a SEQUENCE, element OBJECT IDENTIFIER: plain. No program in sight. -/
section
set_option linter.unusedSimpArgs false
set_option linter.unusedVariables false
namespace Go.Cr
open Go.RowKit

/-- A SEQUENCE. -/
def seqB (ls : List (List UInt8)) : List UInt8 := encO 0 true 16 ls.flatten
/-- The octets of the elements of a SEQUENCE. -/
def eachL (least most : Nat) (b : List UInt8) : Option (List (List UInt8)) := match partsE b 0 16 with
  | .error _ => none
  | .ok xs => if least ≤ xs.length ∧ xs.length ≤ most then some (segsE b xs) else none
/-- The text of an element OBJECT IDENTIFIER. -/
def idL (y : List UInt8) : Option (List UInt8) := match oneE y with
  | .error _ => none
  | .ok x => if isE x 0 false 6 then oidD (seg y x.body x.stop) else none
/-- Its element. -/
def objB (s : List UInt8) : List UInt8 := encO 0 false 6 ((oidE s).getD [])

theorem segsE_len (b : List UInt8) (xs : List Elem) : (segsE b xs).length = xs.length := by simp [segsE]
theorem eachL_ok {least most : Nat} {b : List UInt8} {ls : List (List UInt8)} (h : eachL least most b = some ls) : b = seqB ls ∧ least ≤ ls.length ∧ ls.length ≤ most ∧ ∀ p ∈ ls, ∃ x, oneE p = .ok x := by
  unfold eachL at h
  split at h
  · cases h
  · rename_i xs hp
    split at h
    · rename_i hn
      injection h with h
      subst h
      obtain ⟨hb, _, _, _, _, hall⟩ := partsE_ok hp
      refine ⟨hb, by rw [segsE_len]; exact hn.1, by rw [segsE_len]; exact hn.2, fun p hp => ?_⟩
      unfold segsE at hp
      obtain ⟨x, hx, rfl⟩ := List.mem_map.1 hp
      exact ⟨_, (hall x hx).2.2.2.2⟩
    · cases h
theorem eachL_seq {least most : Nat} {ls : List (List UInt8)} (hl : ls.flatten.length ≤ 2147483647) (h1 : least ≤ ls.length) (h2 : ls.length ≤ most) (h : ∀ p ∈ ls, ∃ x, oneE p = .ok x) : eachL least most (seqB ls) = some ls := by
  obtain ⟨xs, hp, hs⟩ := partsE_enc 0 16 ls (by decide) (by decide) (by decide) (by decide) hl h
  have hn : xs.length = ls.length := by rw [← hs, segsE_len]
  unfold eachL seqB
  rw [hp]
  simp only
  rw [if_pos (by omega), hs]
theorem idL_ok {y s : List UInt8} (h : idL y = some s) : (oidE s).isSome ∧ y = objB s := by
  unfold idL at h
  split at h
  · cases h
  · rename_i x hx
    split at h
    · rename_i his
      have hc := (oneE_canon hx).1
      unfold isE at his
      simp only [Bool.and_eq_true, beq_iff_eq] at his
      rw [his.1.1, his.1.2, his.2] at hc
      have he := (oid_iff _ _).1 h
      unfold objB
      rw [he]
      exact ⟨rfl, hc.symm⟩
    · cases h
theorem idL_obj {s : List UInt8} (h : (oidE s).isSome) (hl : (objB s).length ≤ 1000000) : idL (objB s) = some s := by
  obtain ⟨c, hc⟩ := Option.isSome_iff_exists.1 h
  unfold objB at hl ⊢
  rw [hc] at hl ⊢
  simp only [Option.getD_some] at hl ⊢
  have hL := encO_len 0 6 false c
  obtain ⟨x, hx⟩ : ∃ x, oneE (encO 0 false 6 c) = .ok x := ⟨_, oneE_enc 0 6 false c (by decide) (by decide) (by decide) (by decide) (by omega)⟩
  obtain ⟨h1, h2, h3, h4, h5, h6, h7⟩ := oneE_canon hx
  have hb := oneE_ok hx
  have hsl := seg_len (encO 0 false 6 c) x.body x.stop (by omega) (by omega) (by omega)
  obtain ⟨i1, i2, i3, i4⟩ := encO_inj h4 h5 h6 h7 (by decide) (by decide) (by decide) (by decide) (by omega) (by omega) h1
  unfold idL
  rw [hx]
  simp only
  rw [if_pos (by simp [isE, i1, i2, i3]), i4, (oid_iff _ _).2 hc]
theorem objB_one (s : List UInt8) (hl : (objB s).length ≤ 1000000) : ∃ x, oneE (objB s) = .ok x := by
  unfold objB at hl ⊢
  have hL := encO_len 0 6 false ((oidE s).getD [])
  exact ⟨_, oneE_enc 0 6 false _ (by decide) (by decide) (by decide) (by decide) (by omega)⟩
theorem seqB_len (ls : List (List UInt8)) : ls.flatten.length < (seqB ls).length := by
  have := encO_len 0 16 true ls.flatten
  unfold seqB
  omega
theorem seqB_one (ls : List (List UInt8)) (hl : (seqB ls).length ≤ 1000000) : ∃ x, oneE (seqB ls) = .ok x := by
  have hL := seqB_len ls
  unfold seqB at hl hL ⊢
  exact ⟨_, oneE_enc 0 16 true _ (by decide) (by decide) (by decide) (by decide) (by omega)⟩
theorem seqB_inj {ls ms : List (List UInt8)} (h : seqB ls = seqB ms) (h1 : ∀ p ∈ ls, ∃ x, oneE p = .ok x) (h2 : ∀ p ∈ ms, ∃ x, oneE p = .ok x) (hl : (seqB ls).length ≤ 1000000) : ls = ms := by
  have a := seqB_len ls
  have b := seqB_len ms
  have e1 := eachL_seq (least := 0) (most := ls.length + ms.length) (by omega) (Nat.zero_le _) (by omega) h1
  have e2 := eachL_seq (least := 0) (most := ls.length + ms.length) (by rw [← h] at b; omega) (Nat.zero_le _) (by omega) h2
  rw [h, e2] at e1
  injection e1 with e1
  exact e1.symm
theorem mem_flat_len {α : Type} {ls : List (List α)} {p : List α} (h : p ∈ ls) : p.length ≤ ls.flatten.length := by
  induction ls with
  | nil => cases h
  | cons x t ih =>
    simp only [List.flatten_cons, List.length_append]
    rcases List.mem_cons.1 h with rfl | h
    · omega
    · have := ih h; omega
theorem cnt_flat {ls : List (List UInt8)} (h : ∀ p ∈ ls, ∃ x, oneE p = .ok x) : ls.length ≤ ls.flatten.length := by
  induction ls with
  | nil => simp
  | cons p t ih =>
    obtain ⟨x, hx⟩ := h p (by simp)
    have hb := oneE_ok hx
    have := ih fun q hq => h q (by simp [hq])
    simp only [List.length_cons, List.flatten_cons, List.length_append]
    omega
theorem oidE_some (s : List UInt8) : (oidE s).isSome = (arcsL s).isSome := by first | (unfold oidE; simp; done) | (unfold oidE arcsL; split <;> rfl)

/-! ### What the reference reads. -/
theorem kids_seq {d : Nat} (ls : List (List UInt8)) (hl : (seqB ls).length ≤ 1000000) (h : ∀ p ∈ ls, treeOK d p) : treeOK (d + 1) (seqB ls) ∧ kidsT d (seqB ls) = ls := by
  have a := seqB_len ls
  exact ⟨treeOK_con 0 16 ls (by decide) (by decide) (by decide) (by decide) (by omega) h, kidsT_con 0 16 ls (by decide) (by decide) (by decide) (by decide) (by omega) h⟩
/-- The text that the reference reads. -/
def rdObj (k : List UInt8) : List UInt8 := (oidD (kidC k)).getD []
theorem rdObj_obj {s : List UInt8} (h : (oidE s).isSome) (hl : (objB s).length ≤ 1000000) : rdObj (objB s) = s := by
  obtain ⟨c, hc⟩ := Option.isSome_iff_exists.1 h
  unfold rdObj
  unfold objB at hl ⊢
  rw [hc] at hl ⊢
  simp only [Option.getD_some] at hl ⊢
  have hL := encO_len 0 6 false c
  rw [kidC_enc 0 6 c (by decide) (by decide) (by decide) (by decide) (by omega), (oid_iff _ _).2 hc]
  rfl
theorem objB_tree (d : Nat) (s : List UInt8) (hl : (objB s).length ≤ 1000000) : treeOK (d + 1) (objB s) := by
  unfold objB at hl ⊢
  have hL := encO_len 0 6 false ((oidE s).getD [])
  exact treeOK_prim 0 6 _ (by decide) (by decide) (by decide) (by decide) (by omega)
end Go.Cr
end
