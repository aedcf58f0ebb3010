/- The parts AwkS of one proof, one behind the other. -/
import Derived.Test.YtejmkefdcjachaaGreatDoorJ35
import Derived.Test.YtejmkefdcjachaaGreatDoorJ36
import Derived.Test.YtejmkefdcjachaaGreatDoorJ37

/- The walk over awake of chapter 11: the fixed results that the document gives. -/
section
set_option linter.unusedSimpArgs false
set_option linter.unusedVariables false
namespace Go.Proofs.YtejmkefdcjachaaGreatDoor
open Go.RowKit Go.Cr

theorem isR_lit {w : World} {t : TypeId} {arr : Array Value} {k n g : Nat} (hg : g = w.heap.size) (hk : arr.size = n * k) (hn : n ≤ maxLen) : IsR (w.alloc (.cells arr t)) (.slice (some ⟨g, 0, none⟩) n n) k n arr.toList := by
  subst hg
  refine ⟨_, n, rfl, Nat.le_refl _, hn, by simp [hk], fun _ => ⟨w.heap.size, 0, rfl, by simp, fun j x hj => ?_⟩⟩
  rw [Nat.zero_add, World.cell?_alloc_new]
  simpa using hj
theorem isB_lit {w : World} {t : TypeId} {arr : Array Value} {l : List UInt8} {n g : Nat} (hg : g = w.heap.size) (hl : l.length = n) (ha : arr.toList = bCells l) (hn : n ≤ maxLen) : IsB (w.alloc (.cells arr t)) (.slice (some ⟨g, 0, none⟩) n n) l := by
  subst hl
  have := isR_lit (w := w) (t := t) (arr := arr) (k := 1) (n := l.length) (g := g) hg (by rw [← Array.length_toList, ha, bCells_len]; simp) hn
  rw [ha] at this
  exact this.bytes

theorem isB_s3 {w : World} {t : TypeId} {g : Nat} (hg : g = w.heap.size) : IsB (w.alloc (.cells #[.int .u8 22, .int .u8 1, .int .u8 97] t)) (.slice (some ⟨g, 0, none⟩) 3 3) [22, 1, 97] := isB_lit hg rfl rfl (by decide)
theorem isB_s2 {w : World} {t : TypeId} {g : Nat} (hg : g = w.heap.size) : IsB (w.alloc (.cells #[.int .u8 12, .int .u8 0] t)) (.slice (some ⟨g, 0, none⟩) 2 2) [12, 0] := isB_lit hg rfl rfl (by decide)
theorem isB_s11 {w : World} {t : TypeId} {g : Nat} (hg : g = w.heap.size) : IsB (w.alloc (.cells #[.int .u8 48, .int .u8 9, .int .u8 6, .int .u8 3, .int .u8 85, .int .u8 4, .int .u8 3, .int .u8 12, .int .u8 2, .int .u8 65, .int .u8 98] t)) (.slice (some ⟨g, 0, none⟩) 11 11) [48, 9, 6, 3, 85, 4, 3, 12, 2, 65, 98] := isB_lit hg rfl rfl (by decide)

theorem aw1 : strE 12 [65, 98] = some [12, 2, 65, 98] := by kernel_rfl
theorem aw2 : marA [50, 46, 53, 46, 52, 46, 51] [12, 2, 65, 98] = some [48, 9, 6, 3, 85, 4, 3, 12, 2, 65, 98] := by kernel_rfl
theorem aw3 : oneE [12, 2, 65, 98] = .ok ⟨0, 12, false, 0, 2, 4⟩ := by kernel_rfl
theorem aw4 : dirD [12, 2, 65, 98] = some (12, [65, 98]) := by kernel_rfl
theorem aw5 : oneE [22, 1, 97] = .ok ⟨0, 22, false, 0, 2, 3⟩ := by kernel_rfl
theorem aw6 : strD [22, 1, 97] = some (22, [97]) := by kernel_rfl
theorem aw7 : dirD [22, 1, 97] = none := by kernel_rfl
theorem aw8 : oneE [12, 0] = .ok ⟨0, 12, false, 0, 2, 2⟩ := by kernel_rfl
theorem aw9 : dirD [12, 0] = none := by kernel_rfl
theorem aw10 : labelOf ⟨#[50, 46, 53, 46, 52, 46, 51]⟩ = ⟨#[67, 78]⟩ := by decide

theorem awF (w : World) (hG : Glo w) : Calls Tryz.prog 16 #[.agg #[.int .i64 12, .string ⟨#[65, 98]⟩]] w (RetOidY [12, 2, 65, 98] w) :=
  (fromString 12 ⟨#[65, 98]⟩ w (fun _ => kindOk_12) hG (by decide)).mono fun e w' hh => by
    have h : strE 12 (⟨#[65, 98]⟩ : ByteArray).data.toList = some [12, 2, 65, 98] := aw1
    rw [h] at hh
    exact hh.yes
theorem awM (v : Value) (w : World) (hG : Glo w) (hv : IsB w v [12, 2, 65, 98]) : Calls Tryz.prog 25 #[.agg #[.string ⟨#[50, 46, 53, 46, 52, 46, 51]⟩, v]] w (RetOidY [48, 9, 6, 3, 85, 4, 3, 12, 2, 65, 98] w) :=
  (attMarshal ⟨#[50, 46, 53, 46, 52, 46, 51]⟩ v [12, 2, 65, 98] w hG hv (by decide) (by decide)).mono fun e w' hh => by
    have h : marA (⟨#[50, 46, 53, 46, 52, 46, 51]⟩ : ByteArray).data.toList [12, 2, 65, 98] = some [48, 9, 6, 3, 85, 4, 3, 12, 2, 65, 98] := aw2
    rw [h] at hh
    exact hh.yes
theorem awD (v : Value) (w : World) (hG : Glo w) (hv : IsB w v [12, 2, 65, 98]) : Calls Tryz.prog 14 #[v] w (RetB (.tuple #[.agg #[.int .i64 12, .string ⟨#[65, 98]⟩], .bool true]) w) :=
  (directory_any v _ w hG hv (by decide) (fun x h _ => by rw [aw3] at h; injection h with h; subst h; exact kindOk_12)).mono fun e w' hh => by rw [aw4] at hh; exact hh
theorem awS (v : Value) (w : World) (hG : Glo w) (hv : IsB w v [22, 1, 97]) : Calls Tryz.prog 12 #[v] w (RetB (.tuple #[.agg #[.int .i64 22, .string ⟨#[97]⟩], .bool true]) w) :=
  (string_any v _ w hG hv (by decide) (fun x h _ => by rw [aw5] at h; injection h with h; subst h; exact kindOk_22)).mono fun e w' hh => by rw [aw6] at hh; exact hh
theorem awD2 (v : Value) (w : World) (hG : Glo w) (hv : IsB w v [22, 1, 97]) : Calls Tryz.prog 14 #[v] w (RetB (.tuple #[.agg #[.int .i64 0, .string ⟨#[]⟩], .bool false]) w) :=
  (directory_any v _ w hG hv (by decide) (fun x h _ => by rw [aw5] at h; injection h with h; subst h; exact kindOk_22)).mono fun e w' hh => by rw [aw7] at hh; exact hh
theorem awD3 (v : Value) (w : World) (hG : Glo w) (hv : IsB w v [12, 0]) : Calls Tryz.prog 14 #[v] w (RetB (.tuple #[.agg #[.int .i64 0, .string ⟨#[]⟩], .bool false]) w) :=
  (directory_any v _ w hG hv (by decide) (fun x h _ => by rw [aw8] at h; injection h with h; subst h; exact kindOk_12)).mono fun e w' hh => by rw [aw9] at hh; exact hh

set_option maxRecDepth 100000 in
set_option maxHeartbeats 8000000 in
theorem awake_any (w : World) (hG : Glo w) : Calls Tryz.prog 11 #[] w (RetB (.bool true) w) := by
  have HF : Hid (∀ W, Glo W → Calls Tryz.prog 16 #[.agg #[.int .i64 12, .string ⟨#[65, 98]⟩]] W (RetOidY [12, 2, 65, 98] W)) := awF
  have HM : Hid (∀ v W, Glo W → IsB W v [12, 2, 65, 98] → Calls Tryz.prog 25 #[.agg #[.string ⟨#[50, 46, 53, 46, 52, 46, 51]⟩, v]] W (RetOidY [48, 9, 6, 3, 85, 4, 3, 12, 2, 65, 98] W)) := awM
  have HD : Hid (∀ v W, Glo W → IsB W v [12, 2, 65, 98] → Calls Tryz.prog 14 #[v] W (RetB (.tuple #[.agg #[.int .i64 12, .string ⟨#[65, 98]⟩], .bool true]) W)) := awD
  have HS : Hid (∀ v W, Glo W → IsB W v [22, 1, 97] → Calls Tryz.prog 12 #[v] W (RetB (.tuple #[.agg #[.int .i64 22, .string ⟨#[97]⟩], .bool true]) W)) := awS
  have HD2 : Hid (∀ v W, Glo W → IsB W v [22, 1, 97] → Calls Tryz.prog 14 #[v] W (RetB (.tuple #[.agg #[.int .i64 0, .string ⟨#[]⟩], .bool false]) W)) := awD2
  have HD3 : Hid (∀ v W, Glo W → IsB W v [12, 0] → Calls Tryz.prog 14 #[v] W (RetB (.tuple #[.agg #[.int .i64 0, .string ⟨#[]⟩], .bool false]) W)) := awD3
  have HL : Hid (∀ W, Calls Tryz.prog 20 #[.string ⟨#[50, 46, 53, 46, 52, 46, 51]⟩] W (RetB (.string ⟨#[67, 78]⟩) W)) := fun W => by have := labelAt ⟨#[50, 46, 53, 46, 52, 46, 51]⟩ W; rw [aw10] at this; exact this
  have HB : Hid (∀ a b W, IsB W a [48, 9, 6, 3, 85, 4, 3, 12, 2, 65, 98] → IsB W b [48, 9, 6, 3, 85, 4, 3, 12, 2, 65, 98] → Calls Tryz.prog 17 #[a, b] W (RetB (.bool true) W)) := fun a b W h1 h2 => by have := bytes_any a b _ _ W h1 h2; rw [decide_eq_true rfl] at this; exact this
  have HG := Lib.hid hG
  clear hG
  go_enter Tryz.func11, Tryz.ntmps11
  go_wp2_with (first | ((go_at_call 16); (with_reducible refine (HF.out _ HG.out).mono ?_); rintro e w1 ⟨v1, rfl, ho1, hbw1⟩; obtain ⟨A1, k1, rfl⟩ := isB_slice ho1.isB; have HV1 := Lib.hid (show IsB w1 (.slice A1 4 k1) [12, 2, 65, 98] from ho1.isB); have HB1 := Lib.hid hbw1; have HG1 := Lib.hid (HG.out.below hbw1); clear ho1 hbw1) | ((go_at_call 25); (with_reducible refine (HM.out _ _ HG1.out HV1.out).mono ?_); rintro e w2 ⟨v2, rfl, ho2, hbw2⟩; have HO2 := Lib.hid ho2; have HV2 := Lib.hid (HV1.out.below hbw2); have HG2 := Lib.hid (HG1.out.below hbw2); have HB2 := Lib.hid hbw2; clear ho2 hbw2) | ((go_at_call 14); (with_reducible refine (HD.out _ _ HG2.out HV2.out).mono ?_); rintro e w3 ⟨rfl, hbw3⟩; have HB3 := Lib.hid hbw3; have HG3 := Lib.hid (HG2.out.below hbw3); have HO3 := Lib.hid (HO2.out.below hbw3); have K3 := Blk.new w3 25 #[.int .i64 12, .string ⟨#[65, 98]⟩]; have HK3 := Lib.hid K3; clear hbw3 K3) | ((go_at_call 12); (with_reducible refine (HS.out _ _ ((HG3.out.alloc _).alloc _) (isB_s3 (by simp))).mono ?_); rintro e w4 ⟨rfl, hbw4⟩; have HB4 := Lib.hid hbw4; have HG4 := Lib.hid (((HG3.out.alloc _).alloc _).below hbw4); have HO4 := Lib.hid (((HO3.out.alloc _).alloc _).below hbw4); have HK4 := Lib.hid ((HK3.out.alloc _).call hbw4); clear hbw4) | ((go_at_call 14); (with_reducible refine (HD2.out _ _ ((HG4.out.alloc _).alloc _) (isB_s3 (by simp))).mono ?_); rintro e w5 ⟨rfl, hbw5⟩; have HB5 := Lib.hid hbw5; have HG5 := Lib.hid (((HG4.out.alloc _).alloc _).below hbw5); have HO5 := Lib.hid (((HO4.out.alloc _).alloc _).below hbw5); have HK5 := Lib.hid (((HK4.out.alloc _).alloc _).call hbw5); clear hbw5) | ((go_at_call 14); (with_reducible refine (HD3.out _ _ ((HG5.out.alloc _).alloc _) (isB_s2 (by simp))).mono ?_); rintro e w6 ⟨rfl, hbw6⟩; have HB6 := Lib.hid hbw6; have HO6 := Lib.hid (((HO5.out.alloc _).alloc _).below hbw6); have HK6 := Lib.hid (((HK5.out.alloc _).alloc _).call hbw6); have q6 := (HK6.out.alloc (.cells #[.int .i64 0, .string ⟨#[]⟩] 25)).q; clear hbw6) | ((go_at_call 17); (with_reducible refine (HB.out _ _ _ ((HO6.out.alloc _).isB.alloc _) (isB_s11 (by simp))).mono ?_); rintro e w7 ⟨rfl, hbw7⟩; have HB7 := Lib.hid hbw7; clear hbw7) | ((go_at_call 20); (with_reducible refine (HL.out _).mono ?_); rintro e w8 ⟨rfl, hbw8⟩))
  go_ret
  have t1 := HB1.out
  have t2 := t1.trans (HB2.out.mono t1.size)
  have t3 := t2.trans (HB3.out.mono t2.size)
  have t4 := ((t3.alloc t3.size _).alloc (by have := t3.size; simp; omega) _).trans (HB4.out.mono (by have := t3.size; simp; omega))
  have t5 := ((t4.alloc t4.size _).alloc (by have := t4.size; simp; omega) _).trans (HB5.out.mono (by have := t4.size; simp; omega))
  have t6 := ((t5.alloc t5.size _).alloc (by have := t5.size; simp; omega) _).trans (HB6.out.mono (by have := t5.size; simp; omega))
  have t7 := ((t6.alloc t6.size _).alloc (by have := t6.size; simp; omega) _).trans (HB7.out.mono (by have := t6.size; simp; omega))
  exact ⟨rfl, t7.trans (hbw8.mono t7.size)⟩
end Go.Proofs.YtejmkefdcjachaaGreatDoor
end
