/- The parts FoldA of one proof, one behind the other. -/
import Derived.Test.YtlmnmgokfnnbbaaGreatDoorQ13
import Derived.Test.YtlmnmgokfnnbbaaGreatDoorQ09
import Derived.Test.YtlmnmgokfnnbbaaGreatDoorQ05

/- Walk over charset.Fold. -/
section
set_option linter.unusedSimpArgs false
set_option linter.unusedVariables false
namespace Go.Cr
open Go.RowKit
def lowC (c : UInt8) : UInt8 := if 65 ≤ c.toNat ∧ c.toNat ≤ 90 then c + 32 else c
def foldS (p : List UInt8) (c : UInt8) : List UInt8 := if lowC c = 32 ∧ (p.length = 0 ∨ p.getD (p.length - 1) 0 = 32) then p else p ++ [lowC c]
def foldO (l : List UInt8) : List UInt8 := l.foldl foldS []
def foldP (l : List UInt8) : List UInt8 := Lib.trimSuffix (foldO l) [32]
theorem foldO_succ {l : List UInt8} {i : Nat} (h : i < l.length) : foldO (l.take (i + 1)) = foldS (foldO (l.take i)) l[i] := by
  unfold foldO
  rw [List.take_succ_eq_append_getElem h, List.foldl_append]
  rfl
theorem foldS_len (p : List UInt8) (c : UInt8) : (foldS p c).length ≤ p.length + 1 := by
  unfold foldS
  split
  · omega
  · simp
theorem foldO_len (l : List UInt8) : (foldO l).length ≤ l.length := by
  have : ∀ (l p : List UInt8), (l.foldl foldS p).length ≤ p.length + l.length := fun l => by
    induction l with
    | nil => intro p; simp
    | cons c t ih => intro p; have h1 := ih (foldS p c); have h2 := foldS_len p c; simp only [List.foldl_cons, List.length_cons]; omega
  have := this l []
  simpa [foldO] using this
theorem fold_up (p : List UInt8) {c : UInt8} (h : 65 ≤ c.toNat ∧ c.toNat ≤ 90) : foldS p c = p ++ [c + 32] ∧ bi (c + 32) = bi c + 32 := by
  have hn : (c + 32).toNat = c.toNat + 32 := by rw [UInt8.toNat_add]; simp; omega
  have hne : c + 32 ≠ 32 := fun e => by
    rw [e] at hn
    simp at hn
    omega
  unfold foldS lowC
  rw [if_pos h, if_neg (fun hh => hne hh.1)]
  exact ⟨rfl, by unfold bi; omega⟩
theorem fold_not (p : List UInt8) {c : UInt8} (h : ¬(65 ≤ c.toNat ∧ c.toNat ≤ 90)) (hc : c ≠ 32) : foldS p c = p ++ [c] := by
  unfold foldS lowC
  rw [if_neg h, if_neg (fun hh => hc hh.1)]
theorem fold_sp (p : List UInt8) : foldS p 32 = if p.length = 0 ∨ p.getD (p.length - 1) 0 = 32 then p else p ++ [32] := by
  have e : lowC 32 = 32 := by decide
  unfold foldS
  rw [e]
  by_cases h : p.length = 0 ∨ p.getD (p.length - 1) 0 = 32
  · rw [if_pos ⟨rfl, h⟩, if_pos h]
  · rw [if_neg (fun hh => h hh.2), if_neg h]
end Go.Cr
namespace Go.Proofs.YtlmnmgokfnnbbaaGreatDoor
open Go.RowKit Go.Cr
def FoRel (l : List UInt8) (w : World) (out ix : Value) (wr : World) : Prop := ∃ i : Nat, ix = .int .i64 (i : Int) ∧ i ≤ l.length ∧ OwB wr w.heap.size 5 out (foldO (l.take i)) ∧ Below w.heap.size w wr
set_option maxRecDepth 100000 in
set_option maxHeartbeats 8000000 in
theorem fold_any (s : ByteArray) (w : World) (hs : s.size ≤ 1000000) : Calls Tryz.prog 140 #[.string s] w (RetB (.string (bStr (foldP s.data.toList))) w) := by
  have hL : s.data.toList.length = s.size := rfl
  obtain ⟨l, hl⟩ : ∃ l, s.data.toList = l := ⟨_, rfl⟩
  have hbt : ∀ (k : Nat) (h : k < s.size) (h2 : k < l.length), ((s[k]'h).toNat : Int) = bi l[k] := by
    intro k h h2
    subst hl
    rfl
  rw [hl] at hL ⊢
  obtain ⟨R, hR⟩ : ∃ R, foldP l = R := ⟨_, rfl⟩
  rw [hR]
  have HRR := Lib.hid hR
  have HL := Lib.hid hL
  have HB := Lib.hid hbt
  have HT : Hid (∀ p : List UInt8, p.length ≤ 1000000 → ∀ W, Calls Tryz.prog 180 #[.string (bStr p), .string ⟨#[32]⟩] W (RetB (.string (bStr (Lib.trimSuffix p [32]))) W)) := fun p hp W => by
    refine (Tryz.strings_TrimSuffix (bStr p) ⟨#[32]⟩ W (by show p.toArray.size ≤ _; simp; omega)).mono fun e w' ⟨he, hw⟩ => ?_
    subst hw
    refine ⟨?_, Below.refl _ _⟩
    rw [he]
    have : (bStr p).data.toList = p := by simp [bStr]
    rw [this]
    rfl
  clear hL hbt hl hR
  go_enter Tryz.func140, Tryz.ntmps140
  go_wp2_with fail
  go_loopw [3, 8] (fun out ix wr => FoRel l w out ix wr) (fun _ ix _ => l.length + 1 - (intOf ix).toNat)
  case atStart => exact ⟨0, rfl, Nat.zero_le _, World.ownsRow_nil _ _ _ _, Below.refl _ _⟩
  case round =>
    obtain ⟨i, rfl, hi, ho, hbel⟩ := hrel
    have HO := Lib.hid ho
    have HBR := Lib.hid hbel
    have hLl := HL.out
    by_cases hlt : i < l.length
    · have hks : i < s.size := by omega
      have hltI : (i : Int) < s.size := by omega
      have hx := HB.out i hks hlt
      have HFS := Lib.hid (foldO_succ hlt)
      have hpl : (foldO (l.take i)).length ≤ 1000000 := by have := foldO_len (l.take i); rw [List.length_take] at this; omega
      have hlen := ho.isB.len (P := Tryz.prog) ulB
      have hIB := ho.isB
      generalize foldO (l.take i) = p at *
      generalize l[i] = c at *
      have hc0 := bi_pos c
      have hc1 := bi_lt c
      have hbc : bi c = (c.toNat : Int) := rfl
      have HPL := Lib.hid hpl
      by_cases hup : 65 ≤ c.toNat ∧ c.toNat ≤ 90
      · have h1 : 65 ≤ bi c := by omega
        have h2 : bi c ≤ 90 := by omega
        obtain ⟨hf, hb32⟩ := fold_up p hup
        have hw1 : IntKind.u8.wrap (bi c + 32) = bi c + 32 := by rw [IntKind.wrap_u8]; omega
        have hn32 : (bi c + 32 == 32) = false := beq_eq_false_iff_ne.2 (by omega)
        have HF := Lib.hid hf
        have HB32 := Lib.hid hb32
        clear ho hbel hIB hup hbc hf hb32 hpl
        generalize bi c = b at *
        go_wp2_with (at_builtin; refine wpList_appB _ rfl _ _ 33 rfl w.heap.size 5 ulB infoB _ _ rfl (HO.out.alloc _) _ _ rfl (isB_new _ _ _ _ HB32.out) ?k1 ?k2 ?_)
        case k1 => have := HPL.out; simp; omega
        case k2 => have := HBR.out.size; simp; omega
        intro v2 w2 ho2 _ hb2
        have HO2 := Lib.hid ho2
        have HB2 := Lib.hid ((HBR.out.alloc HBR.out.size _).trans hb2)
        clear ho2 hb2
        go_wp2
        go_roundw
        case rel => exact ⟨i + 1, by go_num, by omega, by rw [HFS.out, HF.out]; exact HO2.out, HB2.out⟩
        case measure => simp [intOf]; omega
      · by_cases h32 : c = 32
        · subst h32
          have hb : bi 32 = 32 := rfl
          rw [hb] at hx
          have hf := fold_sp p
          by_cases hp0 : p.length = 0
          · rw [if_pos (.inl hp0)] at hf
            have HF := Lib.hid hf
            have hp00 : (p.length : Int) = 0 := by omega
            have hp0' : ((p.length : Int) == 0) = true := by simp [hp00]
            clear ho hbel hIB hup hbc hf hpl hp0
            go_wp2_with fail
            go_roundw
            case rel => exact ⟨i + 1, by go_num, by omega, by rw [HFS.out, HF.out]; exact HO.out, HBR.out⟩
            case measure => simp [intOf]; omega
          · have hp0' : ((p.length : Int) == 0) = false := beq_eq_false_iff_ne.2 (by omega)
            obtain ⟨b2, o2, hi2, hl2, hc2⟩ := hIB.at_ (P := Tryz.prog) ulB szB .i64 (i := (p.length : Int) - 1) (by omega) (by omega)
            rw [show ((p.length : Int) - 1).toNat = p.length - 1 by omega] at hc2
            have hsub : IntKind.i64.wrap ((p.length : Int) - 1) = (p.length : Int) - 1 := IntWalk.i64_in _ (by omega)
            have hbd : bat p (p.length - 1) = bi (p.getD (p.length - 1) 0) := rfl
            by_cases hla : p.getD (p.length - 1) 0 = 32
            · rw [if_pos (.inr hla)] at hf
              have HF := Lib.hid hf
              rw [hbd, hla, hb] at hc2
              clear ho hbel hIB hup hbc hf hpl hp0 hla hbd
              go_wp2_with fail
              go_roundw
              case rel => exact ⟨i + 1, by go_num, by omega, by rw [HFS.out, HF.out]; exact HO.out, HBR.out⟩
              case measure => simp [intOf]; omega
            · rw [if_neg (fun h => h.elim hp0 hla)] at hf
              have HF := Lib.hid hf
              have hne : (bat p (p.length - 1) == 32) = false := beq_eq_false_iff_ne.2 (fun e => hla (bi_inj (hbd.symm.trans e)))
              have HB32 := Lib.hid hb
              clear ho hbel hIB hup hbc hf hpl hp0 hla hbd
              generalize bat p (p.length - 1) = y at *
              go_wp2_with (at_builtin; refine wpList_appB _ rfl _ _ 33 rfl w.heap.size 5 ulB infoB _ _ rfl (HO.out.alloc _) _ _ rfl (isB_new _ _ _ _ HB32.out) ?k1 ?k2 ?_)
              case k1 => have := HPL.out; simp; omega
              case k2 => have := HBR.out.size; simp; omega
              intro v2 w2 ho2 _ hb2
              have HO2 := Lib.hid ho2
              have HB2 := Lib.hid ((HBR.out.alloc HBR.out.size _).trans hb2)
              clear ho2 hb2
              go_wp2
              go_roundw
              case rel => exact ⟨i + 1, by go_num, by omega, by rw [HFS.out, HF.out]; exact HO2.out, HB2.out⟩
              case measure => simp [intOf]; omega
        · have hf := fold_not p hup h32
          have hn32 : (bi c == 32) = false := beq_eq_false_iff_ne.2 (fun e => h32 (bi_inj (e.trans rfl)))
          have HF := Lib.hid hf
          rcases (show bi c < 65 ∨ 90 < bi c by omega) with h1 | h1
          all_goals
            clear ho hbel hIB hup hbc hf hpl h32
            generalize hbq : bi c = b at *
            have HB32 := Lib.hid hbq
            clear hbq
            go_wp2_with (at_builtin; refine wpList_appB _ rfl _ _ 33 rfl w.heap.size 5 ulB infoB _ _ rfl (HO.out.alloc _) _ _ rfl (isB_new _ _ _ _ HB32.out) ?k1 ?k2 ?_)
            case k1 => have := HPL.out; simp; omega
            case k2 => have := HBR.out.size; simp; omega
            intro v2 w2 ho2 _ hb2
            have HO2 := Lib.hid ho2
            have HB2 := Lib.hid ((HBR.out.alloc HBR.out.size _).trans hb2)
            clear ho2 hb2
            go_wp2
            go_roundw
            case rel => exact ⟨i + 1, by go_num, by omega, by rw [HFS.out, HF.out]; exact HO2.out, HB2.out⟩
            case measure => simp [intOf]; omega
    · have hie : i = l.length := by omega
      have hge : (s.size : Int) ≤ i := by omega
      rw [hie, List.take_length] at ho
      have hpl := foldO_len l
      have hcv := isB_bstr ho.isB
      have HTT := Lib.hid (HT.out (foldO l) (by omega))
      have hfp : Lib.trimSuffix (foldO l) [32] = R := HRR.out
      rw [hfp] at HTT
      obtain ⟨A3, k3, hv3⟩ := isB_slice ho.isB
      subst hv3
      clear ho hie hlt hi hbel hfp HRR
      generalize foldO l = p at *
      generalize bStr p = sp at *
      go_wp2_with (((go_at_call 180); (with_reducible refine (HTT.out _).mono ?_); rintro e w1 ⟨rfl, hbw1⟩))
      go_ret
      exact ⟨rfl, HBR.out.trans (hbw1.mono HBR.out.size)⟩
end Go.Proofs.YtlmnmgokfnnbbaaGreatDoor
end
