/- The parts PolQ, PolR of one proof, one behind the other. -/
import Derived.Test.YtjjkimjdmpeddaaGreatDoorK35
import Derived.Test.YtjjkimjdmpeddaaGreatDoorK16
import Derived.Test.YtjjkimjdmpeddaaGreatDoorK30

/- Walks over policy.MarshalNotice at the notice of awake. -/
section
set_option linter.unusedSimpArgs false
set_option linter.unusedVariables false
namespace Go.Proofs.YtjjkimjdmpeddaaGreatDoor
open Go.RowKit Go.Cr
set_option maxRecDepth 100000 in
set_option maxHeartbeats 4000000 in
theorem noticeValid0 (w : World) (hG : Glo w) : Calls Tryz.prog 22 #[.agg #[.bool false, .int .i64 0, .string ⟨#[]⟩, .slice none 0 0, .int .i64 12, .string ⟨#[97]⟩]] w (RetB (.bool true) w) := by
  have HD : Hid (∀ W, Glo W → Calls Tryz.prog 52 #[.agg #[.int .i64 12, .string ⟨#[97]⟩]] W (RetB (.bool true) W)) := fun W g => by
    have := polDisplay 12 ⟨#[97]⟩ W g (by decide)
    have e : dispT 12 (⟨#[97]⟩ : ByteArray).data.toList = true := by kernel_rfl
    rwa [e] at this
  have HG := Lib.hid hG
  clear hG
  go_enter Tryz.func22, Tryz.ntmps22
  go_wp2_with (((go_at_call 52); (with_reducible refine (HD.out _ (HG.out.alloc _)).mono ?_); rintro e w1 ⟨rfl, hbw1⟩; have I1 := Blk.call (Blk.new w 30 #[.bool false, .int .i64 0, .string ⟨#[]⟩, .slice none 0 0, .int .i64 12, .string ⟨#[97]⟩]) hbw1; have q1 := I1.q))
  go_ret
  exact ⟨by first | rfl | simp [*], by ((repeat' (first | (with_reducible exact Below.refl _ _) | (with_reducible assumption) | (with_reducible refine Below.setCell ?_ ?_ _) | (with_reducible refine Below.alloc ?_ ?_ _) | (with_reducible refine Below.drew ?_) | (with_reducible refine below_drewN ?_ _) | (with_reducible refine Below.step (by with_reducible assumption) ?_ ?_))) <;> (first | omega | (simp; done) | (simp; omega)))⟩
set_option maxRecDepth 100000 in
set_option maxHeartbeats 4000000 in
theorem noticeMar0 (w : World) (hG : Glo w) : Calls Tryz.prog 19 #[.agg #[.bool false, .int .i64 0, .string ⟨#[]⟩, .slice none 0 0, .int .i64 12, .string ⟨#[97]⟩]] w (RetOidY [48, 3, 12, 1, 97] w) := by
  have HV : Hid (∀ W, Glo W → Calls Tryz.prog 22 #[.agg #[.bool false, .int .i64 0, .string ⟨#[]⟩, .slice none 0 0, .int .i64 12, .string ⟨#[97]⟩]] W (RetB (.bool true) W)) := fun W g => noticeValid0 W g
  have HF : Hid (∀ W, Glo W → Calls Tryz.prog 46 #[.agg #[.int .i64 12, .string ⟨#[97]⟩]] W (RetOidY [12, 1, 97] W)) := fun W g => by
    have h := fromString 12 ⟨#[97]⟩ W (kindOk_all 12) g (by decide)
    have e : strE 12 (⟨#[97]⟩ : ByteArray).data.toList = some [12, 1, 97] := by kernel_rfl
    rw [e] at h
    exact h.mono fun e w' hh => hh.yes
  have HEL : Hid (∀ u W, IsBs W u [[12, 1, 97]] → Calls Tryz.prog 48 #[u] W (RetOK 5 [48, 3, 12, 1, 97] W)) := fun u W h => by
    refine (pSeq u _ W h (by decide)).mono fun e w' hh => ?_
    unfold RetW at hh
    rw [if_pos (by decide)] at hh
    have e2 : encO 0 true 16 [[12, 1, 97]].flatten = [48, 3, 12, 1, 97] := by kernel_rfl
    rwa [e2] at hh
  have HG := Lib.hid hG
  clear hG
  obtain ⟨C, hC⟩ : ∃ C : List UInt8, C = [12, 1, 97] := ⟨_, rfl⟩
  obtain ⟨R, hR⟩ : ∃ R : List UInt8, R = [48, 3, 12, 1, 97] := ⟨_, rfl⟩
  rw [← hR] at HEL ⊢
  rw [← hC] at HF HEL
  clear hC hR
  go_enter Tryz.func19, Tryz.ntmps19
  go_wp2_with (first | ((go_at_call 22); (with_reducible refine (HV.out _ (HG.out.alloc _)).mono ?_); rintro e w1 ⟨rfl, hbw1⟩; have I1 := Blk.call (Blk.new w 30 #[.bool false, .int .i64 0, .string ⟨#[]⟩, .slice none 0 0, .int .i64 12, .string ⟨#[97]⟩]) hbw1; have q1 := I1.q; have HG1 := Lib.hid ((HG.out.alloc (.cells #[.bool false, .int .i64 0, .string ⟨#[]⟩, .slice none 0 0, .int .i64 12, .string ⟨#[97]⟩] 30)).below hbw1)) | ((go_at_call 46); (with_reducible refine (HF.out _ HG1.out).mono ?_); rintro e w2 ⟨v2, rfl, ho2, hbw2⟩; obtain ⟨A2, k2, rfl⟩ := isB_slice ho2.isB; have HP2 := Lib.hid (part_newP (e := 32) ho2 (OwP.nil_ w1 w1.heap.size _) (Nat.le_refl _)); clear ho2) | (at_builtin; refine wpList_appP _ rfl _ _ 28 rfl w1.heap.size 32 ulBs infoBss _ [] rfl (OwP.nil_ _ _ _) _ (.slice A2 C.length k2) C rfl isR_one (HP2.out.alloc _) ?n1 ?b1 ?_))
  case n1 => simp
  case b1 => have := hbw2.size; simp; omega
  intro v3 w3 ho3 hb3 _
  have ho3' : OwP w3 w1.heap.size 32 v3 [C] := ho3
  clear ho3
  obtain ⟨A3, k3, hve⟩ := ho3'.slice
  have hve' : v3 = .slice A3 1 k3 := hve
  clear hve
  subst hve'
  have HO3 := Lib.hid ho3'.isBs
  clear ho3'
  go_wp2_with (((go_at_call 48); (with_reducible refine (HEL.out _ _ HO3.out).mono ?_); rintro e w4 ⟨v4, rfl, ho4, hbw4⟩; have HO4 := Lib.hid ho4; clear ho4))
  go_ret2
  have s1 := hbw1.size; have s2 := hbw2.size; have s3 := hb3.size; have s4 := hbw4.size
  simp at s1 s3
  have c1 : Below w.heap.size w w1 := ((Below.refl _ w).alloc (Nat.le_refl _) _).trans (hbw1.mono (by simp))
  have c2 : Below w.heap.size w w2 := c1.trans (hbw2.mono (by omega))
  have c3 : Below w.heap.size w w3 := (c2.alloc c2.size _).trans (hb3.mono (by omega))
  exact ⟨_, rfl, HO4.out.more (by omega), c3.trans (hbw4.mono (by omega))⟩
end Go.Proofs.YtjjkimjdmpeddaaGreatDoor
end

/- The walk over awake of chapter 17: the fixed results that the document gives. -/
section
set_option linter.unusedSimpArgs false
set_option linter.unusedVariables false
namespace Go.Proofs.YtjjkimjdmpeddaaGreatDoor
open Go.RowKit Go.Cr
theorem isR_lit0 {w : World} {t : TypeId} {arr : Array Value} {k n g : Nat} (hg : g = w.heap.size) (hk : arr.size = n * k) (hn : n ≤ maxLen) : IsR (w.alloc (.cells arr t)) (.slice (some ⟨g, 0, none⟩) n n) k n arr.toList := by
  subst hg
  refine ⟨_, n, rfl, Nat.le_refl _, hn, by simp [hk], fun _ => ⟨w.heap.size, 0, rfl, by simp, fun j x hj => ?_⟩⟩
  rw [Nat.zero_add, World.cell?_alloc_new]
  simpa using hj
theorem isB_lit0 {w : World} {t : TypeId} {arr : Array Value} {l : List UInt8} {n g : Nat} (hg : g = w.heap.size) (hl : l.length = n) (ha : arr.toList = bCells l) (hn : n ≤ maxLen) : IsB (w.alloc (.cells arr t)) (.slice (some ⟨g, 0, none⟩) n n) l := by
  subst hl
  have := isR_lit0 (w := w) (t := t) (arr := arr) (k := 1) (n := l.length) (g := g) hg (by rw [← Array.length_toList, ha, bCells_len]; simp) hn
  rw [ha] at this
  exact this.bytes
theorem isB_p1 {w : World} {t : TypeId} {g : Nat} (hg : g = w.heap.size) : IsB (w.alloc (.cells #[.int .u8 48, .int .u8 6, .int .u8 48, .int .u8 4, .int .u8 6, .int .u8 2, .int .u8 42, .int .u8 3] t)) (.slice (some ⟨g, 0, none⟩) 8 8) [48, 6, 48, 4, 6, 2, 42, 3] := isB_lit0 hg rfl rfl (by decide)
theorem isB_p2 {w : World} {t : TypeId} {g : Nat} (hg : g = w.heap.size) : IsB (w.alloc (.cells #[.int .u8 48, .int .u8 3, .int .u8 12, .int .u8 1, .int .u8 97] t)) (.slice (some ⟨g, 0, none⟩) 5 5) [48, 3, 12, 1, 97] := isB_lit0 hg rfl rfl (by decide)
theorem isB_p3 {w : World} {t : TypeId} {g : Nat} (hg : g = w.heap.size) : IsB (w.alloc (.cells #[.int .u8 48, .int .u8 10, .int .u8 48, .int .u8 8, .int .u8 6, .int .u8 2, .int .u8 42, .int .u8 3, .int .u8 6, .int .u8 2, .int .u8 42, .int .u8 4] t)) (.slice (some ⟨g, 0, none⟩) 12 12) [48, 10, 48, 8, 6, 2, 42, 3, 6, 2, 42, 4] := isB_lit0 hg rfl rfl (by decide)
def ps0 : List Pol := [(⟨#[49, 46, 50, 46, 51]⟩, [])]
def ms0 : List Mp := [(⟨#[49, 46, 50, 46, 51]⟩, ⟨#[49, 46, 50, 46, 52]⟩)]
theorem isPs0 {w : World} {g : Nat} (hg : g = w.heap.size) : IsPs (w.alloc (.cells #[.string ⟨#[49, 46, 50, 46, 51]⟩, .slice none 0 0] 66)) (.slice (some ⟨g, 0, none⟩) 1 1) ps0 := by
  refine ⟨[.string ⟨#[49, 46, 50, 46, 51]⟩, .slice none 0 0], isR_lit0 hg rfl (by decide), fun j hj => ?_⟩
  have hj0 : j = 0 := by have : ps0.length = 1 := rfl; omega
  subst hj0
  exact ⟨.slice none 0 0, rfl, IsQs.nil_ _⟩
theorem isMs0 {w : World} {g : Nat} (hg : g = w.heap.size) : IsMs (w.alloc (.cells #[.string ⟨#[49, 46, 50, 46, 51]⟩, .string ⟨#[49, 46, 50, 46, 52]⟩] 68)) (.slice (some ⟨g, 0, none⟩) 1 1) ms0 := isR_lit0 hg rfl (by decide)
theorem pw1 : okP ps0 = true := by kernel_rfl
theorem pw2 : seqL (ps0.map polL) = [48, 6, 48, 4, 6, 2, 42, 3] := by kernel_rfl
theorem pw3 : okM ms0 = true := by kernel_rfl
theorem pw4 : seqL (ms0.map parM) = [48, 10, 48, 8, 6, 2, 42, 3, 6, 2, 42, 4] := by kernel_rfl
theorem pw5 : (ps0.map polL).flatten.length ≤ 900000 := by
  have : (ps0.map polL).flatten.length = 6 := by kernel_rfl
  omega
theorem pw6 : (ms0.map parM).flatten.length ≤ 900000 := by
  have : (ms0.map parM).flatten.length = 10 := by kernel_rfl
  omega
theorem pw7 : SzP ps0 := by
  refine ⟨by decide, fun p hp => ?_⟩
  have : p = (⟨#[49, 46, 50, 46, 51]⟩, []) := by simpa [ps0] using hp
  subst this
  exact ⟨by decide, by decide, fun q hq => by cases hq⟩
theorem pw8 : SzM ms0 := by
  refine ⟨by decide, fun p hp => ?_⟩
  have : p = (⟨#[49, 46, 50, 46, 51]⟩, ⟨#[49, 46, 50, 46, 52]⟩) := by simpa [ms0] using hp
  subst this
  exact ⟨by decide, by decide⟩
set_option maxRecDepth 100000 in
set_option maxHeartbeats 8000000 in
theorem awake17 (w : World) (hG : Glo w) : Calls Tryz.prog 14 #[] w (RetB (.bool true) w) := by
  have HM : Hid (∀ v W, Glo W → IsPs W v ps0 → Calls Tryz.prog 36 #[v] W (RetOidY [48, 6, 48, 4, 6, 2, 42, 3] W)) := fun v W g h => by have := polMar_yes v ps0 W g h pw7 pw5 pw1; rwa [pw2] at this
  have HN : Hid (∀ W, Glo W → Calls Tryz.prog 19 #[.agg #[.bool false, .int .i64 0, .string ⟨#[]⟩, .slice none 0 0, .int .i64 12, .string ⟨#[97]⟩]] W (RetOidY [48, 3, 12, 1, 97] W)) := fun W g => noticeMar0 W g
  have HP : Hid (∀ v W, Glo W → IsMs W v ms0 → Calls Tryz.prog 29 #[v] W (RetOidY [48, 10, 48, 8, 6, 2, 42, 3, 6, 2, 42, 4] W)) := fun v W g h => by have := polMarM_yes v ms0 W g h pw8 pw6 pw3; rwa [pw4] at this
  have HB1 : Hid (∀ a b W, IsB W a [48, 6, 48, 4, 6, 2, 42, 3] → IsB W b [48, 6, 48, 4, 6, 2, 42, 3] → Calls Tryz.prog 21 #[a, b] W (RetB (.bool true) W)) := fun a b W h1 h2 => by have := bytes_any a b _ _ W h1 h2; rwa [decide_eq_true rfl] at this
  have HB2 : Hid (∀ a b W, IsB W a [48, 3, 12, 1, 97] → IsB W b [48, 3, 12, 1, 97] → Calls Tryz.prog 21 #[a, b] W (RetB (.bool true) W)) := fun a b W h1 h2 => by have := bytes_any a b _ _ W h1 h2; rwa [decide_eq_true rfl] at this
  have HB3 : Hid (∀ a b W, IsB W a [48, 10, 48, 8, 6, 2, 42, 3, 6, 2, 42, 4] → IsB W b [48, 10, 48, 8, 6, 2, 42, 3, 6, 2, 42, 4] → Calls Tryz.prog 21 #[a, b] W (RetB (.bool true) W)) := fun a b W h1 h2 => by have := bytes_any a b _ _ W h1 h2; rwa [decide_eq_true rfl] at this
  have HG := Lib.hid hG
  clear hG
  go_enter Tryz.func14, Tryz.ntmps14
  go_wp2_with (first | ((go_at_call 36); (with_reducible refine (HM.out _ _ (HG.out.alloc _) (isPs0 rfl)).mono ?_); rintro e w1 ⟨v1, rfl, ho1, hbw1⟩; obtain ⟨A1, k1, rfl⟩ := isB_slice ho1.isB; have HV1 := Lib.hid (show IsB w1 (.slice A1 8 k1) [48, 6, 48, 4, 6, 2, 42, 3] from ho1.isB); have HG1 := Lib.hid ((HG.out.alloc (.cells #[.string ⟨#[49, 46, 50, 46, 51]⟩, .slice none 0 0] 66)).below hbw1); clear ho1) | ((go_at_call 19); (with_reducible refine (HN.out _ HG1.out).mono ?_); rintro e w2 ⟨v2, rfl, ho2, hbw2⟩; obtain ⟨A2, k2, rfl⟩ := isB_slice ho2.isB; have HV2 := Lib.hid (show IsB w2 (.slice A2 5 k2) [48, 3, 12, 1, 97] from ho2.isB); have HV12 := Lib.hid (HV1.out.below hbw2); have HG2 := Lib.hid (HG1.out.below hbw2); clear ho2) | ((go_at_call 29); (with_reducible refine (HP.out _ _ (HG2.out.alloc _) (isMs0 rfl)).mono ?_); rintro e w3 ⟨v3, rfl, ho3, hbw3⟩; obtain ⟨A3, k3, rfl⟩ := isB_slice ho3.isB; have HV3 := Lib.hid (show IsB w3 (.slice A3 12 k3) [48, 10, 48, 8, 6, 2, 42, 3, 6, 2, 42, 4] from ho3.isB); have HV13 := Lib.hid ((HV12.out.alloc (.cells #[.string ⟨#[49, 46, 50, 46, 51]⟩, .string ⟨#[49, 46, 50, 46, 52]⟩] 68)).below hbw3); have HV23 := Lib.hid ((HV2.out.alloc (.cells #[.string ⟨#[49, 46, 50, 46, 51]⟩, .string ⟨#[49, 46, 50, 46, 52]⟩] 68)).below hbw3); clear ho3) | ((go_at_call 21); (with_reducible refine (HB1.out _ _ _ (HV13.out.alloc _) (isB_p1 rfl)).mono ?_); rintro e w4 ⟨rfl, hbw4⟩; have HV24 := Lib.hid ((HV23.out.alloc _).below hbw4); have HV34 := Lib.hid ((HV3.out.alloc _).below hbw4)) | ((go_at_call 21); (with_reducible refine (HB2.out _ _ _ (HV24.out.alloc _) (isB_p2 rfl)).mono ?_); rintro e w5 ⟨rfl, hbw5⟩; have HV35 := Lib.hid ((HV34.out.alloc _).below hbw5)) | ((go_at_call 21); (with_reducible refine (HB3.out _ _ _ (HV35.out.alloc _) (isB_p3 rfl)).mono ?_); rintro e w6 ⟨rfl, hbw6⟩))
  go_ret
  have s1 := hbw1.size; have s2 := hbw2.size; have s3 := hbw3.size; have s4 := hbw4.size; have s5 := hbw5.size; have s6 := hbw6.size
  simp at s1 s3 s4 s5 s6
  have c1 : Below w.heap.size w w1 := ((Below.refl _ w).alloc (Nat.le_refl _) _).trans (hbw1.mono (by simp))
  have c2 : Below w.heap.size w w2 := c1.trans (hbw2.mono (by omega))
  have c3 : Below w.heap.size w w3 := (c2.alloc c2.size _).trans (hbw3.mono (by simp; omega))
  have c4 : Below w.heap.size w w4 := (c3.alloc c3.size _).trans (hbw4.mono (by simp; omega))
  have c5 : Below w.heap.size w w5 := (c4.alloc c4.size _).trans (hbw5.mono (by simp; omega))
  have c6 : Below w.heap.size w w6 := (c5.alloc c5.size _).trans (hbw6.mono (by simp; omega))
  exact ⟨rfl, c6⟩
end Go.Proofs.YtjjkimjdmpeddaaGreatDoor
end
