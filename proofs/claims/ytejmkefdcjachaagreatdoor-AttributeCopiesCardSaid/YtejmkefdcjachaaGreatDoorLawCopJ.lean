/- AttributeCopies: what is done later with the bytes or with what was marshalled does not change an attribute that was parsed. No condition beyond the row's own. -/
import Derived.Test.YtejmkefdcjachaaGreatDoorJ43
import Derived.Test.YtejmkefdcjachaaGreatDoorTie
import Derived.Test.YtejmkefdcjachaaGreatDoorCards
import Derived.SevenTiedAt
import Derived.JoinedCond
set_option linter.unusedSimpArgs false
set_option linter.unusedVariables false
namespace Go.Proofs.YtejmkefdcjachaaGreatDoor.CopDone
open Go.RowKit Go.Cr Go.ChangeShapes Go.WideShapes Go.ChangeAt Go.Lib

/-- Outside one block nothing has turned. -/
structure OutB (g : Nat) (w0 w : World) : Prop where
  os : w.os = w0.os
  tape : w.tape = w0.tape
  output : w.output = w0.output
  size : w.heap.size = w0.heap.size
  heap : ∀ j, j ≠ g → w.heap[j]? = w0.heap[j]?
theorem OutB.refl (g : Nat) (w : World) : OutB g w w := ⟨rfl, rfl, rfl, rfl, fun _ _ => rfl⟩
theorem OutB.drewN {g : Nat} {w0 w : World} (h : OutB g w0 w) (q : Nat) : OutB g w0 (w.drewN q) := ⟨h.os, h.tape, h.output, h.size, h.heap⟩
theorem OutB.store {g : Nat} {w0 w : World} (h : OutB g w0 w) (k : Nat) (u : Value) : OutB g w0 (w.setCell ⟨g, k, none⟩ u) :=
  ⟨h.os, h.tape, h.output, by simpa [World.setCell] using h.size, fun j hj => by rw [Below.heap_setCell _ _ _ _ hj]; exact h.heap j hj⟩
theorem OutB.below {g b : Nat} {w0 w : World} (h : OutB g w0 w) (hb : b ≤ g) : Below b w0 w := ⟨h.os, h.tape, h.output, Nat.le_of_eq h.size.symm, fun j hj => h.heap j (by omega)⟩
theorem OutB.blk {g j : Nat} {w0 w : World} {t : TypeId} {cs : Array Value} (h : OutB g w0 w) (hk : Blk w0 j t cs) (hj : j ≠ g) : Blk w j t cs := (h.heap j hj).trans hk
theorem OutB.row {g base : Nat} {w0 w : World} {v : Value} {l : List UInt8} (h : OutB g w0 w) (ho : OwB w0 base 5 v l) (hb : g < base) : OwB w base 5 v l := by
  refine ⟨ho.1, ?_⟩
  rcases ho.2 with h0 | ⟨g', cap, cur, hv, hg, hh, h1, h2, h3, h4⟩
  · exact .inl h0
  · exact .inr ⟨g', cap, cur, hv, hg, by rw [h.heap g' (by omega)]; exact hh, h1, h2, h3, h4⟩
theorem u8_next (x : Int) (h0 : 0 ≤ x) (h1 : x < 256) : ∃ y, IntKind.u8.wrap (x + 1) = y ∧ 0 ≤ y ∧ y < 256 := by
  by_cases h : x = 255
  · subst h; exact ⟨0, rfl, by omega, by omega⟩
  · exact ⟨x + 1, by rw [IntKind.wrap_u8]; omega, by omega, by omega⟩
/-- A round of adding one to each own byte. -/
def IncRel (g cap n base : Nat) (w0 : World) (i : Value) (wr : World) : Prop :=
  ∃ (j : Nat) (l : List UInt8), j ≤ n ∧ i = .int .i64 j ∧ OutB g w0 wr ∧ l.length = n ∧ (0 < n → OwB wr base 5 (.slice (some ⟨g, 0, none⟩) n cap) l)

set_option maxRecDepth 100000 in
set_option maxHeartbeats 4000000 in
theorem long (v : Value) (b : List UInt8) (w : World) (hv : IsB w v b) (hG : Glo w) (hl : 3000 < b.length) : Calls Tryz.prog 10 #[v] w (RetB (.bool true) w) := by
  have hlen := hv.len ulB
  obtain ⟨A, k, rfl⟩ := isB_slice hv
  have HA : Hid (∀ W, Glo W → Calls Tryz.prog 11 #[] W (RetB (.bool true) W)) := awake_any
  have hl' : (3000 : Int) < b.length := by omega
  have HG := Lib.hid hG
  clear hv hG hl
  go_enter Tryz.func10, Tryz.ntmps10
  go_wp2_with (first | ((go_at_call 11); (with_reducible refine (HA.out _ HG.out).mono ?_); rintro e w1 ⟨rfl, hbw1⟩) | ((go_at_call 11); (with_reducible refine (HA.out _ (HG.out.below hbw1)).mono ?_); rintro e w2 ⟨rfl, hbw2⟩))
  go_ret
  exact ⟨rfl, hbw1.trans (hbw2.mono hbw1.size)⟩

theorem emptyOw (W : World) : OwB (W.alloc (.cells #[] 5)) W.heap.size 5 (.slice (some ⟨W.heap.size, 0, none⟩) 0 0) [] := by
  have := World.ownsRow_lit (base := W.heap.size) (e := 5) (size := 1) W #[] 0 (Nat.le_refl _) (by decide) rfl
  show OwB _ _ _ _ _
  simpa [OwB, bCells] using this
theorem ownG {w2 : World} {base : Nat} {u : Value} {l : List UInt8} (ho : OwB w2 base 5 u l) (hs : base < w2.heap.size) :
    ∃ (g cap : Nat) (A : Option Addr) (k : Nat), u = .slice A l.length k ∧ base ≤ g ∧ g < w2.heap.size ∧ (0 < l.length → A = some ⟨g, 0, none⟩ ∧ k = cap) := by
  by_cases h : 0 < l.length
  · obtain ⟨g, cap, hu, h1, h2, _⟩ := OwB.row ho h
    exact ⟨g, cap, _, _, hu, h1, h2, fun _ => ⟨rfl, rfl⟩⟩
  · obtain ⟨A, k, hu⟩ := isB_slice (IsR.of_own ho).bytes
    exact ⟨base, 0, A, k, hu, Nat.le_refl _, hs, fun h' => absurd h' h⟩

theorem OwB.cells {w : World} {base g cap n : Nat} {l : List UInt8} (h : OwB w base 5 (.slice (some ⟨g, 0, none⟩) n cap) l) (hl : 0 < l.length) : (∀ i, i < l.length → w.cell? ⟨g, i, none⟩ = some (.int .u8 (bat l i))) ∧ ∀ i, w.frozen? ⟨g, i, none⟩ = false := by
  obtain ⟨g', c', e, _, _, h1, h2⟩ := OwB.row h hl
  injection e with e1 _ _
  injection e1 with e1
  injection e1 with e1
  subst e1
  exact ⟨h1, h2⟩

set_option maxRecDepth 100000 in
set_option maxHeartbeats 16000000 in
theorem cop_none (v : Value) (b : List UInt8) (w : World) (hv : IsB w v b) (hG : Glo w) (hl : b.length ≤ 3000) (hp : parA b = none) : Calls Tryz.prog 10 #[v] w (RetB (.bool true) w) := by
  have hlen := hv.len ulB
  obtain ⟨A, k, rfl⟩ := isB_slice hv
  have HA : Hid (∀ W, Glo W → Calls Tryz.prog 11 #[] W (RetB (.bool true) W)) := awake_any
  have HP : Hid (∀ W u, Glo W → IsB W u b → Calls Tryz.prog 29 #[u] W (RetPE b.length W)) := fun W u g h => by have := attParse u b W g h (by omega); rwa [hp] at this
  have HR : Hid (∀ W, IsB W (.slice A b.length k) b → Calls Tryz.prog 31 #[.slice A b.length k] W (RetB (.tuple #[.agg #[.string ⟨#[]⟩, .slice none 0 0], .bool false]) W)) := fun W h => by have := rAttParse _ b W h (by omega); rwa [rparA_eq (by omega), hp] at this
  have HM : Hid (∀ W, Glo W → Calls Tryz.prog 25 #[.agg #[.string ⟨#[]⟩, .slice none 0 0]] W (RetB (.tuple #[.slice none 0 0, .int .i64 8]) W)) := fun W g => (attMarshal ⟨#[]⟩ _ [] W g (isB_nil0 W) (by decide) (by decide)).mono fun e w' hh => by
    have hm : marA (⟨#[]⟩ : ByteArray).data.toList [] = none := by kernel_rfl
    rw [hm] at hh; exact hh.no
  have HQ : Hid (∀ W, Calls Tryz.prog 30 #[.agg #[.string ⟨#[]⟩, .slice none 0 0], .agg #[.string ⟨#[]⟩, .slice none 0 0]] W (RetB (.bool true) W)) := fun W => by have := attSame ⟨#[]⟩ ⟨#[]⟩ _ _ [] [] W (isB_nil0 W) (isB_nil0 W); rwa [decide_eq_true ⟨rfl, rfl⟩] at this
  have HB : Hid (∀ W x y, IsB W x b → IsB W y b → Calls Tryz.prog 17 #[x, y] W (RetB (.bool true) W)) := fun W x y h1 h2 => by have := bytes_any x y b b W h1 h2; rwa [decide_eq_true rfl] at this
  have hl' : (b.length : Int) ≤ 3000 := by omega
  have HG := Lib.hid hG
  have HV := Lib.hid hv
  clear hv hG hl hp
  go_enter Tryz.func10, Tryz.ntmps10
  go_wp2_with (first | ((go_at_call 11); (with_reducible refine (HA.out _ HG.out).mono ?_); rintro e w1 ⟨rfl, hbw1⟩; have HG1 := Lib.hid (HG.out.below hbw1); have HV1 := Lib.hid (HV.out.below hbw1)) | (at_builtin; refine wpList_appB _ rfl _ _ 22 rfl w1.heap.size 5 ulB infoB _ [] rfl (emptyOw w1) _ b rfl (HV1.out.alloc _) (by simp; omega) (by simp) ?_; intro u2 w2 ho2 _ hb2; rw [List.nil_append] at ho2; have hs2 : w1.heap.size < w2.heap.size := (by have := hb2.size; simp at this; omega); obtain ⟨g, cap, A2, k2, rfl, hg1, hg2, hg3⟩ := ownG ho2 hs2; have HO2 := Lib.hid ho2; have HI2 := Lib.hid (show IsB w2 (.slice A2 b.length k2) b from (IsR.of_own ho2).bytes); have hb12 : Below w1.heap.size w1 w2 := ((Below.refl _ _).alloc (Nat.le_refl _) _).trans hb2; have HG2 := Lib.hid (HG1.out.below hb12); have HV2 := Lib.hid (HV1.out.below hb12); clear ho2 hb2) | ((go_at_call 29); (with_reducible refine (HP.out _ _ HG2.out HI2.out).mono ?_); rintro e w3 ⟨hbw3, q, o, hq1, ho0, ho1, rfl⟩; have hq0 : ¬ (q = 0) := (by omega); have HO3 := Lib.hid (OwB.below HO2.out hbw3); have HV3 := Lib.hid (HV2.out.below hbw3); have HI3 := Lib.hid (HI2.out.below hbw3)) | ((go_at_call 17); (with_reducible refine (HB.out _ _ _ ((HI3.out.alloc _).alloc _) ((HV3.out.alloc _).alloc _)).mono ?_); rintro e w4 ⟨rfl, hbw4⟩))
  have HO4 := Lib.hid (OwB.below (OwB.alloc (OwB.alloc HO3.out (.cells #[.string ⟨#[]⟩, .slice none 0 0] 37)) (.cells #[.int .i64 q, .int .i64 o] 41)) hbw4)
  go_loopw [6] (fun i wr => IncRel g cap b.length w1.heap.size w4 i wr) (fun i _ => b.length - (RowKit.intOf i).toNat)
  case atStart => exact ⟨0, b, by omega, rfl, OutB.refl _ _, rfl, fun h => by obtain ⟨h1, h2⟩ := hg3 h; have := HO4.out; rw [h1, h2] at this; exact this⟩
  case round =>
    obtain ⟨j, l, hj, rfl, hout, hll, hown⟩ := hrel
    by_cases hlt : (j : Int) < b.length
    · have hn : 0 < b.length := by omega
      obtain ⟨rfl, rfl⟩ := hg3 hn
      have ho := hown hn
      obtain ⟨hcell, hfz⟩ := OwB.cells ho (by omega)
      have cj := hcell j (by omega)
      have fj := hfz j
      obtain ⟨y, hy, y0, y1⟩ := u8_next (bat l j) (bat_pos l j) (bat_lt l j)
      have HO := Lib.hid ho
      have HT := Lib.hid hout
      have HLL := Lib.hid hll
      clear hcell hfz hown ho hout hll
      generalize bat l j = x at *
      go_wp2
      go_roundw
      case rel => exact ⟨j + 1, l.set j (UInt8.ofNat y.toNat), by omega, by go_num, HT.out.store _ _, by rw [List.length_set]; exact HLL.out, fun _ => OwB.put HO.out j y y0 y1⟩
      case measure => simp [RowKit.intOf]; omega
    · have s1 := hbw1.size
      have s2 := hb12.size
      have s3 := hbw3.size
      have s4 := hbw4.size
      simp at s4
      have hw4 : Below w.heap.size w w4 := ((((hbw1.trans (hb12.mono s1)).trans (hbw3.mono (by omega))).alloc (by omega) _).alloc (by simp; omega) _).trans (hbw4.mono (by simp; omega))
      have hwr : Below w.heap.size w wr := hw4.trans (hout.below (by omega))
      obtain ⟨K4, K5, l4, l5⟩ := twoOld hbw4
      have K4r := hout.blk K4 (by omega)
      have K5r := hout.blk K5 (by omega)
      have q4 := K4r.q
      have q5 := K5r.q
      have l4r := K4r.lt
      have l5r := K5r.lt
      have HK4 := Lib.hid K4r
      have HK5 := Lib.hid K5r
      have HWR := Lib.hid hwr
      have HGr := Lib.hid (HG.out.below hwr)
      have HVr := Lib.hid (HV.out.below hwr)
      have hge : (b.length : Int) ≤ j := by omega
      clear K4 K5 K4r K5r l4 l5 hwr hw4 hout hown hll s1 s2 s3 s4
      go_wp2_with (first | ((go_at_call 25); (with_reducible refine (HM.out _ HGr.out).mono ?_); rintro e w5 ⟨rfl, hbw5⟩; have HB5 := Lib.hid (HWR.out.trans (hbw5.mono HWR.out.size)); have HV5 := Lib.hid (HVr.out.below hbw5); have HK45 := Lib.hid (HK4.out.call hbw5); have HK55 := Lib.hid (HK5.out.call hbw5)) | ((go_at_call 31); (with_reducible refine (HR.out _ HV5.out).mono ?_); rintro e w6 ⟨rfl, hbw6⟩; have HB6 := Lib.hid (HB5.out.trans (hbw6.mono HB5.out.size)); have K46 := HK45.out.call hbw6; have K56 := HK55.out.call hbw6; have q46 := K46.q; have q56 := K56.q; have l46 := K46.lt; have l56 := K56.lt) | ((go_at_call 30); (with_reducible refine (HQ.out _).mono ?_); rintro e w7 ⟨rfl, hbw7⟩; have HB7 := Lib.hid ((HB6.out.alloc HB6.out.size _).trans (hbw7.mono (by have := HB6.out.size; simp; omega)))))
      go_loopw [11] (fun i w8 => i = .int .i64 0 ∧ w8 = w7) (fun _ _ => 0)
      case atStart => exact ⟨rfl, rfl⟩
      case round =>
        obtain ⟨rfl, rfl⟩ := hrel
        go_wp2
        go_ret
        exact ⟨rfl, HB7.out⟩

set_option maxRecDepth 100000 in
set_option maxHeartbeats 16000000 in
theorem cop_some (v : Value) (b s l : List UInt8) (w : World) (hv : IsB w v b) (hG : Glo w) (hl : b.length ≤ 3000) (hp : parA b = some (s, l)) : Calls Tryz.prog 10 #[v] w (RetB (.bool true) w) := by
  have hlen := hv.len ulB
  obtain ⟨A, k, rfl⟩ := isB_slice hv
  have HA : Hid (∀ W, Glo W → Calls Tryz.prog 11 #[] W (RetB (.bool true) W)) := awake_any
  have hm := parA_mar hp
  obtain ⟨hsz, hll0⟩ := marBnd hm hl
  have hbl : 0 < b.length := by
    obtain ⟨oo, _, _, e⟩ := marA_some hm
    have := encO_len 0 16 true (encO 0 false 6 oo ++ l)
    rw [← e] at this
    omega
  have HBL := Lib.hid hbl
  have HP : Hid (∀ W u, Glo W → IsB W u b → Calls Tryz.prog 29 #[u] W (AtS (bStr s) l (.agg #[.int .i64 0, .int .i64 0]) W)) := fun W u g h => by have := attParse u b W g h (by omega); rwa [hp] at this
  have HR : Hid (∀ W, IsB W (.slice A b.length k) b → Calls Tryz.prog 31 #[.slice A b.length k] W (AtS (bStr s) l (.bool true) W)) := fun W h => by have := rAttParse _ b W h (by omega); rwa [rparA_eq (by omega), hp] at this
  have HM : Hid (∀ W x, Glo W → IsB W x l → Calls Tryz.prog 25 #[.agg #[.string (bStr s), x]] W (RetOidY b W)) := fun W x g h => (attMarshal (bStr s) x l W g h hsz (by omega)).mono fun e w' hh => by rw [bStr_list, hm] at hh; exact hh.yes
  have HQ : Hid (∀ W x y, IsB W x l → IsB W y l → Calls Tryz.prog 30 #[.agg #[.string (bStr s), x], .agg #[.string (bStr s), y]] W (RetB (.bool true) W)) := fun W x y h1 h2 => by have := attSame (bStr s) (bStr s) x y l l W h1 h2; rwa [decide_eq_true ⟨rfl, rfl⟩] at this
  have HB : Hid (∀ W x y, IsB W x b → IsB W y b → Calls Tryz.prog 17 #[x, y] W (RetB (.bool true) W)) := fun W x y h1 h2 => by have := bytes_any x y b b W h1 h2; rwa [decide_eq_true rfl] at this
  have hl' : (b.length : Int) ≤ 3000 := by omega
  have HG := Lib.hid hG
  have HV := Lib.hid hv
  generalize bStr s = S at *
  clear hv hG hl hp hm hsz hll0 hbl
  go_enter Tryz.func10, Tryz.ntmps10
  go_wp2_with (first | ((go_at_call 11); (with_reducible refine (HA.out _ HG.out).mono ?_); rintro e w1 ⟨rfl, hbw1⟩; have HG1 := Lib.hid (HG.out.below hbw1); have HV1 := Lib.hid (HV.out.below hbw1)) | (at_builtin; refine wpList_appB _ rfl _ _ 22 rfl w1.heap.size 5 ulB infoB _ [] rfl (emptyOw w1) _ b rfl (HV1.out.alloc _) (by simp; omega) (by simp) ?_; intro u2 w2 ho2 _ hb2; rw [List.nil_append] at ho2; have hs2 : w1.heap.size < w2.heap.size := (by have := hb2.size; simp at this; omega); obtain ⟨g, cap, A2, k2, rfl, hg1, hg2, hg3⟩ := ownG ho2 hs2; have HO2 := Lib.hid ho2; have HI2 := Lib.hid (show IsB w2 (.slice A2 b.length k2) b from (IsR.of_own ho2).bytes); have hb12 : Below w1.heap.size w1 w2 := ((Below.refl _ _).alloc (Nat.le_refl _) _).trans hb2; have HG2 := Lib.hid (HG1.out.below hb12); have HV2 := Lib.hid (HV1.out.below hb12); clear ho2 hb2) | ((go_at_call 29); (with_reducible refine (HP.out _ _ HG2.out HI2.out).mono ?_); rintro e w3 ⟨A3, k3, rfl, ho3, hbw3⟩; have HP3 := Lib.hid (show OwB w3 w2.heap.size 5 (.slice A3 l.length k3) l from ho3); clear ho3; have HO3 := Lib.hid (OwB.below HO2.out hbw3); have HV3 := Lib.hid (HV2.out.below hbw3); have HI3 := Lib.hid (HI2.out.below hbw3)) | ((go_at_call 17); (with_reducible refine (HB.out _ _ _ ((HI3.out.alloc _).alloc _) ((HV3.out.alloc _).alloc _)).mono ?_); rintro e w4 ⟨rfl, hbw4⟩))
  have HO4 := Lib.hid (OwB.below (OwB.alloc (OwB.alloc HO3.out (.cells #[.string S, .slice A3 l.length k3] 37)) (.cells #[.int .i64 0, .int .i64 0] 41)) hbw4)
  have HP4 := Lib.hid (OwB.below (OwB.alloc (OwB.alloc HP3.out (.cells #[.string S, .slice A3 l.length k3] 37)) (.cells #[.int .i64 0, .int .i64 0] 41)) hbw4)
  go_loopw [6] (fun i wr => IncRel g cap b.length w1.heap.size w4 i wr) (fun i _ => b.length - (RowKit.intOf i).toNat)
  case atStart => exact ⟨0, b, by omega, rfl, OutB.refl _ _, rfl, fun h => by obtain ⟨h1, h2⟩ := hg3 h; have := HO4.out; rw [h1, h2] at this; exact this⟩
  case round =>
    obtain ⟨j, lx, hj, rfl, hout, hll, hown⟩ := hrel
    by_cases hlt : (j : Int) < b.length
    · have hn : 0 < b.length := by omega
      obtain ⟨rfl, rfl⟩ := hg3 hn
      have ho := hown hn
      obtain ⟨hcell, hfz⟩ := OwB.cells ho (by omega)
      have cj := hcell j (by omega)
      have fj := hfz j
      obtain ⟨y, hy, y0, y1⟩ := u8_next (bat lx j) (bat_pos lx j) (bat_lt lx j)
      have HO := Lib.hid ho
      have HT := Lib.hid hout
      have HLL := Lib.hid hll
      clear hcell hfz hown ho hout hll
      generalize bat lx j = x at *
      go_wp2
      go_roundw
      case rel => exact ⟨j + 1, lx.set j (UInt8.ofNat y.toNat), by omega, by go_num, HT.out.store _ _, by rw [List.length_set]; exact HLL.out, fun _ => OwB.put HO.out j y y0 y1⟩
      case measure => simp [RowKit.intOf]; omega
    · have s1 := hbw1.size
      have s2 := hb12.size
      have s3 := hbw3.size
      have s4 := hbw4.size
      simp at s4
      have hw4 : Below w.heap.size w w4 := ((((hbw1.trans (hb12.mono s1)).trans (hbw3.mono (by omega))).alloc (by omega) _).alloc (by simp; omega) _).trans (hbw4.mono (by simp; omega))
      have hwr : Below w.heap.size w wr := hw4.trans (hout.below (by omega))
      obtain ⟨K4, K5, l4, l5⟩ := twoOld hbw4
      have K4r := hout.blk K4 (by omega)
      have K5r := hout.blk K5 (by omega)
      have q4 := K4r.q
      have q5 := K5r.q
      have l4r := K4r.lt
      have l5r := K5r.lt
      have HK4 := Lib.hid K4r
      have HK5 := Lib.hid K5r
      have HWR := Lib.hid hwr
      have HGr := Lib.hid (HG.out.below hwr)
      have HVr := Lib.hid (HV.out.below hwr)
      have HPr := Lib.hid (show IsB wr (.slice A3 l.length k3) l from (IsR.of_own (hout.row HP4.out hg2)).bytes)
      have hge : (b.length : Int) ≤ j := by omega
      clear K4 K5 K4r K5r l4 l5 hwr hw4 hout hown hll s1 s2 s3 s4
      go_wp2_with (first | ((go_at_call 25); (with_reducible refine (HM.out _ _ HGr.out HPr.out).mono ?_); rintro e w5 ⟨v5, rfl, ho5, hbw5⟩; obtain ⟨g5, c5, rfl, hg51, hg52, _, _⟩ := OwB.row (w := w5) (base := wr.heap.size) ho5 HBL.out; have HO5 := Lib.hid (show OwB w5 wr.heap.size 5 (.slice (some ⟨g5, 0, none⟩) b.length c5) b from ho5); have HB5 := Lib.hid (HWR.out.trans (hbw5.mono HWR.out.size)); have HX5 := Lib.hid hbw5; have HV5 := Lib.hid (HVr.out.below hbw5); have HK45 := Lib.hid (HK4.out.call hbw5); have HK55 := Lib.hid (HK5.out.call hbw5); clear ho5) | ((go_at_call 31); (with_reducible refine (HR.out _ HV5.out).mono ?_); rintro e w6 ⟨A6, k6, rfl, ho6, hbw6⟩; have HO6 := Lib.hid (show OwB w6 w5.heap.size 5 (.slice A6 l.length k6) l from ho6); have HI6 := Lib.hid (show IsB w6 (.slice A6 l.length k6) l from (IsR.of_own ho6).bytes); have HX6 := Lib.hid (HX5.out.trans (hbw6.mono HX5.out.size)); have K46 := HK45.out.call hbw6; have K56 := HK55.out.call hbw6; have q46 := K46.q; have q56 := K56.q; have l46 := K46.lt; have l56 := K56.lt; have HO56 := Lib.hid (OwB.below HO5.out hbw6); have HI36 := Lib.hid (HPr.out.below HX6.out); clear ho6) | ((go_at_call 30); (with_reducible refine (HQ.out _ _ _ (HI36.out.alloc _) (HI6.out.alloc _)).mono ?_); rintro e w7 ⟨rfl, hbw7⟩; have HO7 := Lib.hid (OwB.below (OwB.alloc HO56.out (.cells #[.string S, .slice A6 l.length k6] 37)) hbw7); have HR7 := Lib.hid (OwB.below (OwB.alloc HO6.out (.cells #[.string S, .slice A6 l.length k6] 37)) hbw7); have HK47 := Lib.hid ((K46.alloc (.cells #[.string S, .slice A6 l.length k6] 37)).call hbw7); have HK97 := Lib.hid ((Blk.new w6 37 #[.string S, .slice A6 l.length k6]).call hbw7); have HX7 := Lib.hid ((HX6.out.alloc HX6.out.size _).trans (hbw7.mono (by have := HX6.out.size; simp; omega))); have hs56 := hbw6.size))
      obtain ⟨wm, rfl⟩ : ∃ x, x = wr := ⟨_, rfl⟩
      go_loopw [11] (fun i w8 => IncRel g5 c5 b.length wm.heap.size w7 i w8) (fun i _ => b.length - (RowKit.intOf i).toNat)
      case atStart => exact ⟨0, b, by omega, rfl, OutB.refl _ _, rfl, fun _ => HO7.out⟩
      case round =>
        obtain ⟨j2, lx, hj2, rfl, hout, hll, hown⟩ := hrel
        by_cases hlt2 : (j2 : Int) < b.length
        · have ho := hown HBL.out
          obtain ⟨hcell, hfz⟩ := OwB.cells ho (by omega)
          have cj := hcell j2 (by omega)
          have fj := hfz j2
          obtain ⟨y, hy, y0, y1⟩ := u8_next (bat lx j2) (bat_pos lx j2) (bat_lt lx j2)
          have HO := Lib.hid ho
          have HT := Lib.hid hout
          have HLL := Lib.hid hll
          clear hcell hfz hown ho hout hll
          generalize bat lx j2 = x at *
          go_wp2
          go_roundw
          case rel => exact ⟨j2 + 1, lx.set j2 (UInt8.ofNat y.toNat), by omega, by go_num, HT.out.store _ _, by rw [List.length_set]; exact HLL.out, fun _ => OwB.put HO.out j2 y y0 y1⟩
          case measure => simp [RowKit.intOf]; omega
        · have hs7 := hbw7.size
          simp at hs7
          have HV8 := Lib.hid (HPr.out.below (HX7.out.trans (hout.below hg51)))
          have HR8 := Lib.hid (show IsB wr (.slice A6 l.length k6) l from (IsR.of_own (hout.row HR7.out hg52)).bytes)
          have K48 := hout.blk HK47.out (by omega)
          have K98 := hout.blk HK97.out (by omega)
          have q48 := K48.q
          have q98 := K98.q
          have l48 := K48.lt
          have l98 := K98.lt
          have HB8 := Lib.hid (HWR.out.trans ((HX7.out.trans (hout.below hg51)).mono HWR.out.size))
          have hge2 : (b.length : Int) ≤ j2 := by omega
          clear K48 K98 hout hown hll hs7 q46 q56 l46 l56 q4 q5 l4r l5r
          go_wp2_with (first | ((go_at_call 30); (with_reducible refine (HQ.out _ _ _ HV8.out HR8.out).mono ?_); rintro e w9 ⟨rfl, hbw9⟩))
          go_ret
          exact ⟨rfl, HB8.out.trans (hbw9.mono HB8.out.size)⟩

theorem walk (v : Value) (b : List UInt8) (w : World) (hv : IsB w v b) (hG : Glo w) : Calls Tryz.prog 10 #[v] w (RetB (.bool true) w) := by
  by_cases hl : b.length ≤ 3000
  · cases hp : parA b with
    | none => exact cop_none v b w hv hG hl hp
    | some x => exact cop_some v b x.1 x.2 w hv hG hl hp
  · exact long v b w hv hG (by omega)

theorem witness_row (os : Os) {H : Type} (enc : TypeId × Value → H) :
    (OpenSpec.ofChange Rows.attributeCopiesSpec).preRow enc Tryz.prog Tryz.f10 Rows.attributeCopiesRow.domain false Rows.attributeCopiesRow.laid ((laidW os).forCall (fun _ _ => 0) ⟨#[], #[.slice none 0 0], []⟩).memory #[.slice none 0 0] := by
  have hw : (DataW.whole enc Tryz.prog ((laidW os).forCall (fun _ _ => 0) ⟨#[], #[.slice none 0 0], []⟩).memory Tryz.f10.params.toList (OpenSpec.ofChange Rows.attributeCopiesSpec).vars false #[(.slice none 0 0 : Value)].toList 8).map (fun x => (x.1, x.2.1)) =
      some ([.nil], []) := by kernel_rfl
  obtain ⟨⟨x1, x2, x3⟩, hx, hx1⟩ := Option.map_eq_some_iff.1 hw
  simp only [Prod.mk.injEq] at hx1
  obtain ⟨rfl, rfl⟩ := hx1
  exact OpenSpec.preRow_of_cond 8 hx (by kernel_rfl) (fun k hk => by cases hk) (by kernel_rfl) (laidW_met os _)

set_option maxRecDepth 100000 in
set_option maxHeartbeats 2000000 in
theorem lifted (os : Os) (started : os.Started) (H : Type) (enc : TypeId × Value → H) (F : Stop.Interp) :
    ReturnsInHanded {} Tryz.checked os 10 .any ((OpenSpec.ofChange Rows.attributeCopiesSpec).preRow enc Tryz.prog Tryz.f10 Rows.attributeCopiesRow.domain false Rows.attributeCopiesRow.laid) (((OpenSpec.ofChange Rows.attributeCopiesSpec).at F).post enc Tryz.prog Tryz.f10 false true false false) := by
  refine returnsInHanded_of_row (C := Tryz.checked) (s := OpenSpec.ofChange Rows.attributeCopiesSpec) lw_own started (by kernel_rfl) Tryz.func10
    (witness_laid #[.slice none 0 0] (by kernel_rfl) (witness_row os enc)) ?_
  intro W base args ds gs before hval0 hW hcnd _ hz0 hL hsh _
  have hG : Glo W := glo_of W hL hsh
  have hval : ∀ (j : Nat) t v, Tryz.f10.params[j]? = some t → args[j]? = some v → Value.okWide Tryz.prog W .any base t v := hval0
  have hW' := hW
  obtain ⟨p, q, hA0, hV, rfl, hfz, hnd⟩ := hW
  have hA : DataW.TrodAll enc Tryz.prog W 0 (fun _ => true) true Tryz.f10.params.toList args.toList ds p := hA0
  rw [Tryz.params10] at hA hval
  obtain ⟨v0, vs0, d0, ds0, p0, q0, hargs, rfl, rfl, h0, r0⟩ := trodAll_cons hA
  obtain ⟨rfl, rfl, rfl⟩ := trodAll_nil r0
  obtain rfl : args = #[v0] := by cases args; simp_all
  obtain ⟨rfl, rfl⟩ := trodVars_none hV
  have lt0 : ∀ x ∈ p0, x.block < W.heap.size := by obtain ⟨m, hm⟩ := h0; exact DataW.trod_lt m _ _ _ hm
  obtain ⟨l0, w0⟩ := open_bytes (hval 0 22 v0 rfl rfl) h0
  clear hA0 hval0
  refine (walk _ l0 W w0 hG).mono fun e W' ⟨he, bel⟩ => ?_
  subst he
  exact ⟨_, rfl, _, _, _, [], _, [], hW', trodAll_mk1 (shut_bool (by kernel_rfl : Tryz.prog.underlying 4 = some .bool) _), (trodAll_cons_mk (Below.trod lw_laidOut (by kernel_rfl) (of_decide_eq_true (by kernel_rfl)) h0 bel lt0) trodAll_mk0), rfl, bel.frame _, fun h => by cases h⟩

theorem holds : Rows.AttributeCopiesSaid :=
  OpenClaim.holds_of_cond 10 Tryz.f10 rfl rfl rfl rfl rfl rfl rfl ⟨rfl, rfl, rfl, rfl, rfl⟩ rfl rfl rfl rfl rfl (by kernel_rfl) Tryz.func10 (by kernel_rfl)
    (of_decide_eq_true (by kernel_rfl)) (by unfold Func.isWrapper; first | (rw [if_pos (by decide +kernel)]; kernel_rfl) | (rw [if_neg (by decide +kernel)]; exact ⟨rfl, rfl⟩))
    (fun os started H enc _ F0 => by rw [OpenClaim.pre_eq_preRow]; exact lifted os started H enc F0)

theorem proved : Rows.AttributeCopiesCardSaid :=
  Claim7.holds_tied_plain_at .later [] [.data, .data, .data, .data, .sentinel, .sentinel, .pinned] true (true, "a669af08838cfad0aa38966214e8cb1e037c880dbfa1422bd235b91a679aa7b7") true holds (fun _ h => by cases h) (by kernel_rfl) (fun _ h => by cases h) attributeCopies_row_tie rfl ⟨rfl, rfl⟩ (by kernel_rfl) rfl
    (fun f fn hf hfn => by
      obtain rfl : f = 10 := Option.some.inj ((show Tryz.prog.funcNamed "cretula/cretulalaw11.AttributeCopies" = some 10 by kernel_rfl).symm.trans hf) |>.symm
      obtain rfl : fn = Tryz.f10 := (Option.some.inj (Tryz.func10.symm.trans hfn)).symm
      exact ⟨by kernel_rfl, fun j t ht => by
        rw [Tryz.params10] at ht
        have hm : t ∈ [22] := by simpa using Array.mem_of_getElem? ht
        have hall : ([22].all fun u => !Tryz.prog.wantsStandIn u) = true := by kernel_rfl
        exact (show Tryz.prog.wantsStandIn t = false by simpa using List.all_eq_true.1 hall t hm)⟩)
    (by kernel_rfl)
#print axioms proved
end Go.Proofs.YtejmkefdcjachaaGreatDoor.CopDone
