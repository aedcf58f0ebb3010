/- Walks over Wrap and Sequence, in the program and in the reference. -/
import Derived.Test.YtecbphbnacbepaaEnc
set_option linter.unusedSimpArgs false
set_option linter.unusedVariables false
namespace Go.Proofs.Ytecbphbnacbepaa
open Go.RowKit Go.Cr

/-- What Wrap leaves. -/
def RetW (c : Int) (k : Bool) (n : Int) (l : List UInt8) (w : World) (e : Ending) (w' : World) : Prop :=
  if 0 ≤ c ∧ c ≤ 3 ∧ 0 ≤ n ∧ n < 31 then RetOK 5 (encO c k n l) w e w' else RetB (.tuple #[.slice none 0 0, .int .i64 9]) w e w'

theorem pEnc (c n : Int) (k : Bool) (v : Value) (l : List UInt8) (w : World) (hv : IsB w v l) (hl : l.length ≤ 900000) :
    Calls Try.prog 37 #[.int .i64 c, .bool k, .int .i64 n, v] w (RetW c k n l w) := by
  by_cases h : 0 ≤ c ∧ c ≤ 3 ∧ 0 ≤ n ∧ n < 31
  · exact (pEnc_good c n k v l w hv h.1 h.2.1 h.2.2.1 h.2.2.2 hl).mono fun e w' he => by unfold RetW; rw [if_pos h]; exact he
  · exact (pEnc_bad c n k v w (by omega)).mono fun e w' he => by unfold RetW; rw [if_neg h]; exact he
theorem rEnc (c n : Int) (k : Bool) (v : Value) (l : List UInt8) (w : World) (hv : IsB w v l) (hl : l.length ≤ 900000) :
    Calls Try.prog 39 #[.int .i64 c, .bool k, .int .i64 n, v] w (RetW c k n l w) := by
  by_cases h : 0 ≤ c ∧ c ≤ 3 ∧ 0 ≤ n ∧ n < 31
  · exact (rEnc_good c n k v l w hv h.1 h.2.1 h.2.2.1 h.2.2.2 hl).mono fun e w' he => by unfold RetW; rw [if_pos h]; exact he
  · exact (rEnc_bad c n k v w (by omega)).mono fun e w' he => by unfold RetW; rw [if_neg h]; exact he

/-- Both endings of Wrap: a slice and a code. -/
theorem RetW.get {c n : Int} {k : Bool} {l : List UInt8} {w : World} {e : Ending} {w' : World} (h : RetW c k n l w e w') :
    ∃ v cd, e = .returned (.tuple #[v, .int .i64 cd]) ∧ Below w.heap.size w w' ∧ ∀ w0 w2, Below w0.heap.size w0 w' → w0.heap.size ≤ w.heap.size → Below w0.heap.size w0 w2 → Below w'.heap.size w' w2 → RetW c k n l w0 (.returned (.tuple #[v, .int .i64 cd])) w2 := by
  unfold RetW at h ⊢
  split at h
  · next hh =>
    obtain ⟨v, rfl, h1, h2⟩ := h
    exact ⟨v, 0, rfl, h2, fun w0 w2 _ hs hb hb' => by rw [if_pos hh]; exact ⟨v, rfl, (h1.below hb').more hs, hb⟩⟩
  · next hh =>
    obtain ⟨rfl, h2⟩ := h
    exact ⟨_, _, rfl, h2, fun w0 w2 _ hs hb hb' => by rw [if_neg hh]; exact ⟨rfl, hb⟩⟩

set_option maxRecDepth 100000 in
set_option maxHeartbeats 2000000 in
theorem pWrap (c n : Int) (k : Bool) (v : Value) (ls : List (List UInt8)) (w : World) (hv : IsBs w v ls) (hl : ls.flatten.length ≤ 900000) :
    Calls Try.prog 17 #[.int .i64 c, .bool k, .int .i64 n, v] w (RetW c k n ls.flatten w) := by
  have HV := Lib.hid hv
  obtain ⟨F, hF⟩ : ∃ F, ls.flatten = F := ⟨_, rfl⟩
  have HC : Hid (Calls Try.prog 38 #[v] w (RetO 5 F w)) := by
    have := concat_any v ls w hv (by omega)
    rw [hF] at this; exact this
  rw [hF] at hl ⊢
  clear hv hF
  have HE := Lib.hid (fun x W (h : IsB W x F) => pEnc c n k x F W h hl)
  go_enter Try.func17, Try.ntmps17
  go_wp2_with (first | (go_at_call 38; (with_reducible refine HC.out.mono ?_); rintro e w1 ⟨v1, rfl, ho, hb1⟩; have HO := Lib.hid ho; clear ho) | (go_at_call 37; (with_reducible refine (HE.out _ _ HO.out.isB).mono ?_); rintro e w2 hw2; obtain ⟨v2, cd, rfl, hb2, hp⟩ := hw2.get; have HP := Lib.hid hp; clear hp hw2))
  go_ret2
  exact HP.out _ _ (hb1.trans (hb2.mono hb1.size)) hb1.size (hb1.trans (hb2.mono hb1.size)) (Below.refl _ _)

set_option maxRecDepth 100000 in
set_option maxHeartbeats 2000000 in
theorem pSeq (v : Value) (ls : List (List UInt8)) (w : World) (hv : IsBs w v ls) (hl : ls.flatten.length ≤ 900000) :
    Calls Try.prog 19 #[v] w (RetW 0 true 16 ls.flatten w) := by
  have HW := Lib.hid (pWrap 0 16 true v ls w hv hl)
  generalize ls.flatten = F at *
  clear hv hl
  go_enter Try.func19, Try.ntmps19
  go_wp2_with (go_at_call 17; (with_reducible refine HW.out.mono ?_); rintro e w2 hw2; obtain ⟨v2, cd, rfl, hb2, hp⟩ := hw2.get; have HP := Lib.hid hp; clear hp hw2)
  go_ret2
  exact HP.out _ _ hb2 (Nat.le_refl _) hb2 (Below.refl _ _)

def WrRel (ls : List (List UInt8)) (w : World) (i out : Value) (wr : World) : Prop :=
  ∃ k : Nat, k ≤ ls.length ∧ i = .int .i64 k ∧ OwB wr w.heap.size 5 out (cat ls k) ∧ Below w.heap.size w wr

set_option maxRecDepth 100000 in
set_option maxHeartbeats 2000000 in
theorem rWrap (c n : Int) (kk : Bool) (v : Value) (ls : List (List UInt8)) (w : World) (hv : IsBs w v ls) (hl : ls.flatten.length ≤ 900000) :
    Calls Try.prog 18 #[.int .i64 c, .bool kk, .int .i64 n, v] w (RetW c kk n ls.flatten w) := by
  have hlen := hv.len ulBs
  have hmx := hv.maxl
  have HV := Lib.hid hv
  clear hv
  obtain ⟨F, hF⟩ : ∃ F, ls.flatten = F := ⟨_, rfl⟩
  have hcl : ∀ k, (cat ls k).length ≤ F.length := fun k => by rw [← hF]; exact cat_le ls k
  rw [hF] at hl ⊢
  have hall : cat ls ls.length = F := by rw [cat_all, hF]
  have HA := Lib.hid hall
  have HC := Lib.hid hcl
  have HE := Lib.hid (fun x W (h : IsB W x F) => rEnc c n kk x F W h hl)
  have HN := Lib.hid hl
  clear hF hall hcl hl
  go_enter Try.func18, Try.ntmps18
  go_wp2
  go_loopw [11, 10] (fun i out wr => WrRel ls w i out wr) (fun i _ _ => ls.length - (intOf i).toNat)
  case atStart => exact ⟨0, by omega, rfl, by rw [cat_zero]; exact OwB.nil_ _ _ _, Below.refl _ _⟩
  case round =>
    obtain ⟨k, hk, rfl, ho, hbel⟩ := hrel
    have HO := Lib.hid ho
    clear ho
    by_cases hlt : (k : Int) < ls.length
    · obtain ⟨b, o, u, hi, hb, hc, hu⟩ := (HV.out.below hbel).at_ (P := Try.prog) ulBs szBs .i64 (i := k) (by omega) hlt
      rw [Int.toNat_natCast] at hu
      have HU := Lib.hid hu
      have H1 := Lib.hid (cat_succ ls k (by omega))
      have H2 := Lib.hid (HC.out (k + 1))
      clear hu
      go_wp2_with (at_builtin; refine wpList_appB _ rfl _ _ 30 rfl w.heap.size 5 ulB infoB _ _ rfl HO.out _ _ rfl HU.out ?k1 ?k2 ?_)
      case k1 => have := H2.out; rw [H1.out, List.length_append] at this; have := HN.out; omega
      case k2 => exact hbel.size
      intro v2 w2 ho2 _ hb2
      have HO2 := Lib.hid ho2
      have hbel2 : Below w.heap.size w w2 := hbel.trans hb2
      clear ho2 hb2
      go_wp2
      go_roundw
      case rel => exact ⟨k + 1, by omega, by go_num, by rw [H1.out]; exact HO2.out, hbel2⟩
      case measure => simp [intOf]; omega
    · obtain rfl : k = ls.length := by omega
      rw [HA.out] at HO
      go_wp2_with (go_at_call 39; (with_reducible refine (HE.out _ _ HO.out.isB).mono ?_); rintro e w2 hw2; obtain ⟨v2, cd, rfl, hb2, hp⟩ := hw2.get; have HP := Lib.hid hp; clear hp hw2)
      go_ret2
      exact HP.out _ _ (hbel.trans (hb2.mono hbel.size)) hbel.size (hbel.trans (hb2.mono hbel.size)) (Below.refl _ _)
end Go.Proofs.Ytecbphbnacbepaa
