/- The parts Lab of one proof, one behind the other. -/
import Derived.Test.YtlmnmgokfnnbbaaGreatDoorQ18
import Derived.Test.YtlmnmgokfnnbbaaGreatDoorProg
import Derived.Carry
import Derived.LoopTactic

/- Walks over the labels of attributes: labels, Label, Find. -/
section
set_option linter.unusedSimpArgs false
set_option linter.unusedVariables false
namespace Go.Cr
def labelsL : List (ByteArray × ByteArray) := [
  (⟨#[67]⟩, ⟨#[50, 46, 53, 46, 52, 46, 54]⟩),
  (⟨#[67, 78]⟩, ⟨#[50, 46, 53, 46, 52, 46, 51]⟩),
  (⟨#[68, 67]⟩, ⟨#[48, 46, 57, 46, 50, 51, 52, 50, 46, 49, 57, 50, 48, 48, 51, 48, 48, 46, 49, 48, 48, 46, 49, 46, 50, 53]⟩),
  (⟨#[71, 78]⟩, ⟨#[50, 46, 53, 46, 52, 46, 52, 50]⟩),
  (⟨#[76]⟩, ⟨#[50, 46, 53, 46, 52, 46, 55]⟩),
  (⟨#[79]⟩, ⟨#[50, 46, 53, 46, 52, 46, 49, 48]⟩),
  (⟨#[79, 85]⟩, ⟨#[50, 46, 53, 46, 52, 46, 49, 49]⟩),
  (⟨#[83, 78]⟩, ⟨#[50, 46, 53, 46, 52, 46, 52]⟩),
  (⟨#[83, 84]⟩, ⟨#[50, 46, 53, 46, 52, 46, 56]⟩),
  (⟨#[84]⟩, ⟨#[50, 46, 53, 46, 52, 46, 49, 50]⟩)]
def labF (n : ByteArray) : Option ByteArray := (labelsL.find? fun p => decide (p.1 = n)).map (·.2)
def labelOf (s : ByteArray) : ByteArray := ((labelsL.find? fun p => decide (p.2 = s)).map (·.1)).getD ⟨#[]⟩
theorem labF_mem {k v : ByteArray} (h : labF k = some v) : (k, v) ∈ labelsL := by
  unfold labF at h
  cases hf : labelsL.find? (fun p => decide (p.1 = k)) with
  | none => rw [hf] at h; cases h
  | some p =>
    rw [hf] at h
    injection h with h
    have h1 := List.find?_some hf
    have h2 := List.mem_of_find?_eq_some hf
    simp at h1
    obtain ⟨a, b⟩ := p
    simp only at h h1
    subst h h1
    exact h2
theorem labF_of {k v : ByteArray} (h : (k, v) ∈ labelsL) : labF k = some v := by
  have : ∀ p ∈ labelsL, labF p.1 = some p.2 := by decide
  exact this _ h
theorem labelOf_of {k v : ByteArray} (h : (k, v) ∈ labelsL) : labelOf v = k := by
  have : ∀ p ∈ labelsL, labelOf p.2 = p.1 := by decide
  exact this _ h
theorem labelOf_none {s : ByteArray} (h : ∀ k, (k, s) ∉ labelsL) : labelOf s = ⟨#[]⟩ := by
  unfold labelOf
  cases hf : labelsL.find? (fun p => decide (p.2 = s)) with
  | none => rfl
  | some p =>
    have h1 := List.find?_some hf
    have h2 := List.mem_of_find?_eq_some hf
    simp at h1
    obtain ⟨a, b⟩ := p
    simp only at h1
    subst h1
    exact absurd h2 (h a)
def labV (n : ByteArray) : Option Value := (labF n).map .string
end Go.Cr
namespace Go.Proofs.YtlmnmgokfnnbbaaGreatDoor
open Go.RowKit Go.Cr
theorem tMapS : Tryz.prog.underlying 94 = some (.map 9 9) := by kernel_rfl
theorem tStr : Tryz.prog.underlying 9 = some .string := by kernel_rfl

def RetLabs (w : World) (e : Ending) (w' : World) : Prop := ∃ gm, e = .returned (.map (some gm)) ∧ w.heap.size ≤ gm ∧ HasM strKey w' gm labV ∧ Below w.heap.size w w'

set_option maxRecDepth 100000 in
set_option maxHeartbeats 4000000 in
theorem labels_any (w : World) : Calls Tryz.prog 73 #[] w (RetLabs w) := by
  go_enter Tryz.func73, Tryz.ntmps73
  go_wp2_with (first | ((with_reducible refine wpList_makeM _ rfl _ rfl strKey ?_); intro h0; have H0 := Lib.hid h0; have B0 : Below w.heap.size w (w.alloc (.map #[] 0)) := (Below.refl _ _).alloc (Nat.le_refl _) _; clear h0) | ((with_reducible refine wpList_insM _ rfl _ _ _ _ rfl strKey tMapS tStr _ _ H0.out ⟨#[67]⟩ (.string ⟨#[50, 46, 53, 46, 52, 46, 54]⟩) rfl rfl rfl ?i1 ?_); (case i1 => simp); intro w1 h1 z1 o1 b1; have H1 := Lib.hid h1; have B1 := b1 _ _ (Nat.le_refl _) B0; clear h1 z1 b1 o1 H0 B0) | ((with_reducible refine wpList_insM _ rfl _ _ _ _ rfl strKey tMapS tStr _ _ H1.out ⟨#[67, 78]⟩ (.string ⟨#[50, 46, 53, 46, 52, 46, 51]⟩) rfl rfl rfl ?i2 ?_); (case i2 => simp); intro w2 h2 z2 o2 b2; have H2 := Lib.hid h2; have B2 := b2 _ _ (Nat.le_refl _) B1; clear h2 z2 b2 o2 H1 B1) | ((with_reducible refine wpList_insM _ rfl _ _ _ _ rfl strKey tMapS tStr _ _ H2.out ⟨#[68, 67]⟩ (.string ⟨#[48, 46, 57, 46, 50, 51, 52, 50, 46, 49, 57, 50, 48, 48, 51, 48, 48, 46, 49, 48, 48, 46, 49, 46, 50, 53]⟩) rfl rfl rfl ?i3 ?_); (case i3 => simp); intro w3 h3 z3 o3 b3; have H3 := Lib.hid h3; have B3 := b3 _ _ (Nat.le_refl _) B2; clear h3 z3 b3 o3 H2 B2) | ((with_reducible refine wpList_insM _ rfl _ _ _ _ rfl strKey tMapS tStr _ _ H3.out ⟨#[71, 78]⟩ (.string ⟨#[50, 46, 53, 46, 52, 46, 52, 50]⟩) rfl rfl rfl ?i4 ?_); (case i4 => simp); intro w4 h4 z4 o4 b4; have H4 := Lib.hid h4; have B4 := b4 _ _ (Nat.le_refl _) B3; clear h4 z4 b4 o4 H3 B3) | ((with_reducible refine wpList_insM _ rfl _ _ _ _ rfl strKey tMapS tStr _ _ H4.out ⟨#[76]⟩ (.string ⟨#[50, 46, 53, 46, 52, 46, 55]⟩) rfl rfl rfl ?i5 ?_); (case i5 => simp); intro w5 h5 z5 o5 b5; have H5 := Lib.hid h5; have B5 := b5 _ _ (Nat.le_refl _) B4; clear h5 z5 b5 o5 H4 B4) | ((with_reducible refine wpList_insM _ rfl _ _ _ _ rfl strKey tMapS tStr _ _ H5.out ⟨#[79]⟩ (.string ⟨#[50, 46, 53, 46, 52, 46, 49, 48]⟩) rfl rfl rfl ?i6 ?_); (case i6 => simp); intro w6 h6 z6 o6 b6; have H6 := Lib.hid h6; have B6 := b6 _ _ (Nat.le_refl _) B5; clear h6 z6 b6 o6 H5 B5) | ((with_reducible refine wpList_insM _ rfl _ _ _ _ rfl strKey tMapS tStr _ _ H6.out ⟨#[79, 85]⟩ (.string ⟨#[50, 46, 53, 46, 52, 46, 49, 49]⟩) rfl rfl rfl ?i7 ?_); (case i7 => simp); intro w7 h7 z7 o7 b7; have H7 := Lib.hid h7; have B7 := b7 _ _ (Nat.le_refl _) B6; clear h7 z7 b7 o7 H6 B6) | ((with_reducible refine wpList_insM _ rfl _ _ _ _ rfl strKey tMapS tStr _ _ H7.out ⟨#[83, 78]⟩ (.string ⟨#[50, 46, 53, 46, 52, 46, 52]⟩) rfl rfl rfl ?i8 ?_); (case i8 => simp); intro w8 h8 z8 o8 b8; have H8 := Lib.hid h8; have B8 := b8 _ _ (Nat.le_refl _) B7; clear h8 z8 b8 o8 H7 B7) | ((with_reducible refine wpList_insM _ rfl _ _ _ _ rfl strKey tMapS tStr _ _ H8.out ⟨#[83, 84]⟩ (.string ⟨#[50, 46, 53, 46, 52, 46, 56]⟩) rfl rfl rfl ?i9 ?_); (case i9 => simp); intro w9 h9 z9 o9 b9; have H9 := Lib.hid h9; have B9 := b9 _ _ (Nat.le_refl _) B8; clear h9 z9 b9 o9 H8 B8) | ((with_reducible refine wpList_insM _ rfl _ _ _ _ rfl strKey tMapS tStr _ _ H9.out ⟨#[84]⟩ (.string ⟨#[50, 46, 53, 46, 52, 46, 49, 50]⟩) rfl rfl rfl ?i10 ?_); (case i10 => simp); intro w10 h10 z10 o10 b10; have H10 := Lib.hid h10; have B10 := b10 _ _ (Nat.le_refl _) B9; clear h10 z10 b10 o10 H9 B9))
  go_ret
  refine ⟨_, rfl, Nat.le_refl _, ?_, B10⟩
  refine H10.out.congr (fun n => ?_)
  clear H10 B10
  repeat' split
  all_goals first
    | (rename_i h; subst h; rfl)
    | (cases hl : labF n with
       | none => unfold labV; rw [hl]; rfl
       | some v =>
         have hm := labF_mem hl
         simp only [labelsL, List.mem_cons, List.mem_nil_iff, or_false, Prod.mk.injEq] at hm
         exfalso
         rcases hm with ⟨h, _⟩ | ⟨h, _⟩ | ⟨h, _⟩ | ⟨h, _⟩ | ⟨h, _⟩ | ⟨h, _⟩ | ⟨h, _⟩ | ⟨h, _⟩ | ⟨h, _⟩ | ⟨h, _⟩ <;> contradiction)

theorem str_ne {a b : ByteArray} (h : a ≠ b) : (a.toList == b.toList) = false := by
  rw [ByteArray.toList_eq, ByteArray.toList_eq]
  exact beq_eq_false_iff_ne.2 (fun e => h (by obtain ⟨x⟩ := a; obtain ⟨y⟩ := b; simp at e; simp [e]))
theorem str_eq (a : ByteArray) : (a.toList == a.toList) = true := by simp

def LabRel (s : ByteArray) (gm r : Nat) (w wr : World) : Prop := ∃ pre : List ByteArray, RangeM strKey wr gm r labV pre ∧ (∀ k ∈ pre, labF k ≠ some s) ∧ Below w.heap.size w wr
set_option maxRecDepth 100000 in
set_option maxHeartbeats 4000000 in
theorem labelAt (s : ByteArray) (w : World) : Calls Tryz.prog 44 #[.string s] w (RetB (.string (labelOf s)) w) := by
  have HR : Hid (∀ W, Calls Tryz.prog 73 #[] W (RetLabs W)) := labels_any
  go_enter Tryz.func44, Tryz.ntmps44
  go_wp2_with (first | ((go_at_call 73); (with_reducible refine (HR.out _).mono ?_); rintro e w1 ⟨gm, rfl, hgm, hM, hbw1⟩; have HM := Lib.hid hM; clear hM) | ((refine wpList_rangeM _ rfl _ _ rfl strKey tMapS gm labV HM.out rfl ?_); intro w2 hR hz2 hb2; have HR2 := Lib.hid hR; have HB2 := Lib.hid (hb2 _ _ hbw1.size hbw1); clear hR hb2))
  go_frame
  go_loopw [] (fun wr => LabRel s gm w1.heap.size w wr) (fun wr => leftM wr gm w1.heap.size)
  case atStart => exact ⟨[], HR2.out, by simp, HB2.out⟩
  case round =>
    obtain ⟨pre, hr, hp, hb⟩ := hrel
    have HR3 := Lib.hid hr
    have HB3 := Lib.hid hb
    have HP := Lib.hid hp
    clear hr hb hp
    go_wp2_with (refine wpList_nextM _ rfl _ rfl strKey gm w1.heap.size labV pre HR3.out rfl ?_ ?_)
    · intro hall
      have HA := Lib.hid hall
      clear hall
      go_wp2
      go_ret
      have hn : ∀ k, (k, s) ∉ labelsL := fun k hk => by
        have h1 := labF_of hk
        exact HP.out k (HA.out k (.string s) (by unfold labV; rw [h1]; rfl)) h1
      exact ⟨by rw [labelOf_none hn]; rfl, HB3.out⟩
    · intro k v w3 hkv hr3 hen hlt hz3 hb3
      obtain ⟨y, hy, rfl⟩ : ∃ y, labF k = some y ∧ v = .string y := by
        unfold labV at hkv
        cases hf : labF k with
        | none => rw [hf] at hkv; cases hkv
        | some y => rw [hf] at hkv; injection hkv with h; exact ⟨y, rfl, h.symm⟩
      have HR4 := Lib.hid hr3
      have HB4 := Lib.hid (hb3 _ _ hbw1.size HB3.out)
      have HL := Lib.hid hlt
      have HY := Lib.hid hy
      clear hkv hr3 hlt hb3 hy
      by_cases hys : y = s
      · subst hys
        have he := str_eq y
        go_wp2
        go_ret
        exact ⟨by rw [labelOf_of (labF_mem HY.out)]; rfl, HB4.out⟩
      · have he := str_ne hys
        have HN := Lib.hid hys
        clear hys
        go_wp2
        go_roundw
        case rel =>
          refine ⟨pre ++ [k], HR4.out, fun j hj => ?_, HB4.out⟩
          rcases List.mem_append.1 hj with hj | hj
          · exact HP.out j hj
          · rw [List.mem_singleton] at hj
            subst hj
            rw [HY.out]
            exact fun h => HN.out (Option.some.inj h)
        case measure => exact HL.out
end Go.Proofs.YtlmnmgokfnnbbaaGreatDoor
end
