/- The parts RefY, RefZ of one proof, one behind the other. -/
import Derived.Test.YtlmnmgokfnnbbaaGreatDoorQ32
import Derived.Test.YtlmnmgokfnnbbaaGreatDoorQ28
import Derived.Test.YtlmnmgokfnnbbaaGreatDoorQ11

/- Walks over the reference's character strings (cretularef11): FromString, ReadString, String, Filled, Directory. -/
section
set_option linter.unusedSimpArgs false
set_option linter.unusedVariables false
namespace Go.Proofs.YtlmnmgokfnnbbaaGreatDoor
open Go.RowKit Go.Cr
/-! ### The plain law -/
def numK (p : List UInt8) : Int := match nextH p with
  | .error _ => 0
  | .ok h => h.num
def rdS (b : List UInt8) : Int × List UInt8 := if treeOK 60 b then (numK b, kidC b) else (0, [])
def optS (p : Int × List UInt8) : Option (Int × List UInt8) := (decT p.1 p.2).map fun s => (p.1, s)
def elS : Option (Int × List UInt8) → Option (List UInt8)
  | none => none
  | some (k, s) => strE k s
def rstr (b : List UInt8) : Option (Int × List UInt8) := if elS (optS (rdS b)) = some b then optS (rdS b) else none
theorem numK_enc (c n : Int) (l : List UInt8) (h : 0 ≤ c) (h1 : c ≤ 3) (h2 : 0 ≤ n) (h3 : n < 31) (hl : l.length ≤ 2147483647) : numK (encO c false n l) = n := by
  have e1 := nextH_enc c n false l [] h h1 h2 h3 hl
  rw [List.append_nil] at e1
  unfold numK
  rw [e1]
theorem rstr_eq {b : List UInt8} (hl : b.length ≤ 1000000) : rstr b = strD b := by
  by_cases hA : ∃ x, oneE b = .ok x ∧ x.cls = 0 ∧ x.con = false
  · obtain ⟨x, hx, hc0, hcf⟩ := hA
    have hcan := oneE_canon hx
    rw [hc0, hcf] at hcan
    obtain ⟨he, _, _, _, _, h5, h6⟩ := hcan
    have hsd : strD b = (decT x.num (seg b x.body x.stop)).map (fun s => (x.num, s)) := by
      unfold strD
      rw [hx]
      simp only
      rw [if_pos ⟨hc0, hcf⟩]
    rw [hsd]
    generalize hcc : seg b x.body x.stop = c at *
    generalize x.num = n at *
    have hcl := encO_len 0 n false c
    rw [he] at hcl
    have ht : treeOK 60 b := by rw [← he]; exact treeOK_prim 0 n c (by decide) (by decide) h5 h6 (by omega)
    have hrd : rdS b = (n, c) := by
      unfold rdS
      rw [if_pos ht, ← he, numK_enc 0 n c (by decide) (by decide) h5 h6 (by omega), kidC_enc 0 n c (by decide) (by decide) h5 h6 (by omega)]
    unfold rstr
    rw [hrd]
    unfold optS
    simp only
    cases hd : decT n c with
    | none => rfl
    | some s =>
      have he2 := decT_iff.1 hd
      have : elS (some (n, s)) = some b := by
        unfold elS strE
        simp only [he2, Option.map_some, he]
      simp only [Option.map_some]
      rw [if_pos this]
  · have hsd : strD b = none := by
      unfold strD
      cases hx : oneE b with
      | error e => rfl
      | ok x =>
        simp only
        rw [if_neg (fun h => hA ⟨x, hx, h.1, h.2⟩)]
    rw [hsd]
    unfold rstr
    split
    · rename_i he
      exfalso
      cases ho : optS (rdS b) with
      | none => rw [ho] at he; cases he
      | some p =>
        obtain ⟨k, s⟩ := p
        rw [ho] at he
        unfold elS strE at he
        simp only at he
        cases hc : encT k s with
        | none => rw [hc] at he; cases he
        | some c =>
          rw [hc] at he
          simp only [Option.map_some, Option.some.injEq] at he
          have hr := widthK_range (validT_iff.1 (encT_valid hc)).1
          have hcl := encO_len 0 k false c
          rw [he] at hcl
          have h1 := oneE_enc 0 k false c (by decide) (by decide) (by omega) (by omega) (by omega)
          rw [he] at h1
          exact hA ⟨_, h1, rfl, rfl⟩
    · rfl

/-! ### The walks -/
theorem optS_len {p : Int × List UInt8} {k : Int} {s : List UInt8} (h : optS p = some (k, s)) : s.length ≤ 4 * p.2.length := by
  unfold optS at h
  cases hd : decT p.1 p.2 with
  | none => rw [hd] at h; cases h
  | some t =>
    rw [hd] at h
    simp only [Option.map_some, Option.some.injEq, Prod.mk.injEq] at h
    obtain ⟨_, rfl⟩ := h
    cases hw : widthK p.1 with
    | none => unfold decT at hd; rw [hw] at hd; cases hd
    | some n =>
      have h1 := ((decT_back hw).1 t hd).1
      have h2 := backR_len n p.2 (by have := widthK_small hw; omega)
      rw [h1]
      exact h2
theorem rdS_len (b : List UInt8) : (rdS b).2.length ≤ b.length := by
  unfold rdS
  split
  · exact kidC_len b
  · simp
end Go.Proofs.YtlmnmgokfnnbbaaGreatDoor
end

/- Walks over the reference's Filled and Directory. -/
section
set_option linter.unusedSimpArgs false
set_option linter.unusedVariables false
namespace Go.Proofs.YtlmnmgokfnnbbaaGreatDoor
open Go.RowKit Go.Cr
theorem strD_len {b : List UInt8} {k : Int} {s : List UInt8} (hl : b.length ≤ 1000000) (h : strD b = some (k, s)) : s.length ≤ 4 * b.length := by
  rw [← rstr_eq hl] at h
  unfold rstr at h
  split at h
  · have h1 := optS_len h
    have h2 := rdS_len b
    omega
  · cases h
end Go.Proofs.YtlmnmgokfnnbbaaGreatDoor
end
