/- The parts LawKitO, LawPolK of one proof, one behind the other. -/
import Derived.Test.YtjjkimjdmpeddaaGreatDoorJ42
import Derived.Test.YtjjkimjdmpeddaaGreatDoorJ40

/- The cells of one own row turn while all else stays. -/
section
set_option linter.unusedSimpArgs false
set_option linter.unusedVariables false
namespace Go.Proofs.YtjjkimjdmpeddaaGreatDoor.PolKDone
open Go.RowKit Go.Cr Go.Lib

/-- Outside one block nothing has turned. -/
structure OutB (g : Nat) (w0 w : World) : Prop where
  os : w.os = w0.os
  tape : w.tape = w0.tape
  output : w.output = w0.output
  size : w.heap.size = w0.heap.size
  heap : ∀ j, j ≠ g → w.heap[j]? = w0.heap[j]?
theorem OutB.refl (g : Nat) (w : World) : OutB g w w := ⟨rfl, rfl, rfl, rfl, fun _ _ => rfl⟩
theorem OutB.drewN {g : Nat} {w0 w : World} (h : OutB g w0 w) (q : Nat) : OutB g w0 (w.drewN q) := ⟨h.os, h.tape, h.output, h.size, h.heap⟩
theorem OutB.store {g : Nat} {w0 w : World} (h : OutB g w0 w) (k : Nat) (u : Value) : OutB g w0 (w.setCell ⟨g, k, none⟩ u) :=
  ⟨h.os, h.tape, h.output, by simpa [World.setCell] using h.size, fun j hj => by rw [Below.heap_setCell _ _ _ _ hj]; exact h.heap j hj⟩
theorem OutB.below {g b : Nat} {w0 w : World} (h : OutB g w0 w) (hb : b ≤ g) : Below b w0 w := ⟨h.os, h.tape, h.output, Nat.le_of_eq h.size.symm, fun j hj => h.heap j (by omega)⟩
theorem OutB.blk {g j : Nat} {w0 w : World} {t : TypeId} {cs : Array Value} (h : OutB g w0 w) (hk : Blk w0 j t cs) (hj : j ≠ g) : Blk w j t cs := (h.heap j hj).trans hk
theorem OutB.rowL {α : Type} {r : Rep α} {X : Nat → Prop} {g base : Nat} {e : TypeId} {w0 w : World} {v : Value} {l : List α} (h : OutB g w0 w) (ho : OwL r X w0 base e v l) (hb : g < base) : OwL r X w base e v l := ho.keep (Nat.le_of_eq h.size.symm) fun b _ hbb _ => h.heap b (by omega)
theorem OutB.row {g base : Nat} {w0 w : World} {v : Value} {l : List UInt8} (h : OutB g w0 w) (ho : OwB w0 base 5 v l) (hb : g < base) : OwB w base 5 v l := by
  refine ⟨ho.1, ?_⟩
  rcases ho.2 with h0 | ⟨g', cap, cur, hv, hg, hh, h1, h2, h3, h4⟩
  · exact .inl h0
  · exact .inr ⟨g', cap, cur, hv, hg, by rw [h.heap g' (by omega)]; exact hh, h1, h2, h3, h4⟩
theorem u8_next (x : Int) (h0 : 0 ≤ x) (h1 : x < 256) : ∃ y, IntKind.u8.wrap (x + 1) = y ∧ 0 ≤ y ∧ y < 256 := by
  by_cases h : x = 255
  · subst h; exact ⟨0, rfl, by omega, by omega⟩
  · exact ⟨x + 1, by rw [IntKind.wrap_u8]; omega, by omega, by omega⟩
/-- A round of adding one to each own byte. -/
def IncRel (g cap n base : Nat) (w0 : World) (i : Value) (wr : World) : Prop :=
  ∃ (j : Nat) (l : List UInt8), j ≤ n ∧ i = .int .i64 j ∧ OutB g w0 wr ∧ l.length = n ∧ (0 < n → OwB wr base 5 (.slice (some ⟨g, 0, none⟩) n cap) l)

theorem seq_two (ls : List (List UInt8)) : 2 ≤ (seqL ls).length := by
  unfold seqL
  rw [encO_len]
  have := (lenOct_len ls.flatten.length).1
  omega
theorem emptyOw (W : World) : OwB (W.alloc (.cells #[] 5)) W.heap.size 5 (.slice (some ⟨W.heap.size, 0, none⟩) 0 0) [] := by
  have := World.ownsRow_lit (base := W.heap.size) (e := 5) (size := 1) W #[] 0 (Nat.le_refl _) (by decide) rfl
  show OwB _ _ _ _ _
  simpa [OwB, bCells] using this
theorem ownG {w2 : World} {base : Nat} {u : Value} {l : List UInt8} (ho : OwB w2 base 5 u l) (hs : base < w2.heap.size) :
    ∃ (g cap : Nat) (A : Option Addr) (k : Nat), u = .slice A l.length k ∧ base ≤ g ∧ g < w2.heap.size ∧ (0 < l.length → A = some ⟨g, 0, none⟩ ∧ k = cap) := by
  by_cases h : 0 < l.length
  · obtain ⟨g, cap, hu, h1, h2, _⟩ := OwB.row ho h
    exact ⟨g, cap, _, _, hu, h1, h2, fun _ => ⟨rfl, rfl⟩⟩
  · obtain ⟨A, k, hu⟩ := isB_slice (IsR.of_own ho).bytes
    exact ⟨base, 0, A, k, hu, Nat.le_refl _, hs, fun h' => absurd h' h⟩

theorem OwB.cells {w : World} {base g cap n : Nat} {l : List UInt8} (h : OwB w base 5 (.slice (some ⟨g, 0, none⟩) n cap) l) (hl : 0 < l.length) : (∀ i, i < l.length → w.cell? ⟨g, i, none⟩ = some (.int .u8 (bat l i))) ∧ ∀ i, w.frozen? ⟨g, i, none⟩ = false := by
  obtain ⟨g', c', e, _, _, h1, h2⟩ := OwB.row h hl
  injection e with e1 _ _
  injection e1 with e1
  injection e1 with e1
  subst e1
  exact ⟨h1, h2⟩
end Go.Proofs.YtjjkimjdmpeddaaGreatDoor.PolKDone
end

/- PolicyCopies: the walk. -/
section
set_option linter.unusedSimpArgs false
set_option linter.unusedVariables false
namespace Go.Proofs.YtjjkimjdmpeddaaGreatDoor.PolKDone
open Go.RowKit Go.Cr Go.Lib
set_option maxRecDepth 100000 in
set_option maxHeartbeats 8000000 in
theorem long (v : Value) (b : List UInt8) (w : World) (hv : IsB w v b) (hG : Glo w) (hl : 3000 < b.length) : Calls Tryz.prog 13 #[v] w (RetB (.bool true) w) := by
  have hlen := hv.len (P := Tryz.prog) ulB
  obtain ⟨A, k, rfl⟩ := isB_slice hv
  have HA : Hid (∀ W, Glo W → Calls Tryz.prog 14 #[] W (RetB (.bool true) W)) := awake17
  have hl' : (3000 : Int) < b.length := by omega
  have HG := Lib.hid hG
  have hcur := Lib.hid (Below.refl w.heap.size w)
  clear hv hG hl
  go_enter Tryz.func13, Tryz.ntmps13
  go_wp2_with (first | ((go_at_call 14); (with_reducible refine (HA.out _ (HG.out.below hcur.out)).mono ?_); rintro e wz ⟨rfl, hbz⟩; have hcur := Lib.hid (hcur.out.trans (hbz.mono hcur.out.size)); clear hbz))
  go_ret
  exact ⟨rfl, hcur.out⟩

set_option maxRecDepth 100000 in
set_option maxHeartbeats 16000000 in
theorem cop_none (v : Value) (b : List UInt8) (w : World) (hv : IsB w v b) (hG : Glo w) (hl : b.length ≤ 3000) (hp : parPs b = none) : Calls Tryz.prog 13 #[v] w (RetB (.bool true) w) := by
  have hlen := hv.len (P := Tryz.prog) ulB
  obtain ⟨A, k, rfl⟩ := isB_slice hv
  have hpe := rparPs_eq (b := b) (by omega)
  rw [hp] at hpe
  have HA : Hid (∀ W, Glo W → Calls Tryz.prog 14 #[] W (RetB (.bool true) W)) := awake17
  have HP : Hid (∀ W u, Glo W → IsB W u b → Calls Tryz.prog 40 #[u] W (RetPPn b.length W)) := fun W u g h => by
    have := polParse u b W g h (by omega)
    rw [hp] at this
    exact this.mono fun e w' hh => hh.no
  have HR : Hid (∀ W, IsB W (.slice A b.length k) b → Calls Tryz.prog 42 #[.slice A b.length k] W (RetB (.tuple #[.slice none 0 0, .bool false]) W)) := fun W h => by
    have := rParP _ b W h (by omega)
    rw [hpe] at this
    exact this.mono fun e w' hh => hh.no
  have HM : Hid (∀ W, Glo W → Calls Tryz.prog 36 #[.slice none 0 0] W (RetB (.tuple #[.slice none 0 0, .int .i64 8]) W)) := fun W g => polMar_no _ [] W g (isPs_nil W) ⟨by decide, fun p hp => by cases hp⟩ (by decide)
  have HQ : Hid (∀ W, Calls Tryz.prog 41 #[.slice none 0 0, .slice none 0 0] W (RetB (.bool true) W)) := fun W => by have := basP _ _ [] [] W (isPs_nil W) (isPs_nil W); rwa [decide_eq_true rfl] at this
  have HB : Hid (∀ W x y, IsB W x b → IsB W y b → Calls Tryz.prog 21 #[x, y] W (RetB (.bool true) W)) := fun W x y h1 h2 => by have := bytes_any x y b b W h1 h2; rwa [decide_eq_true rfl] at this
  have hl' : (b.length : Int) ≤ 3000 := by omega
  have HG := Lib.hid hG
  have HV := Lib.hid hv
  unfold RetPPn at HP
  simp only [errV] at HP
  clear hv hG hl hp hpe
  go_enter Tryz.func13, Tryz.ntmps13
  go_wp2_with (first | ((go_at_call 14); (with_reducible refine (HA.out _ HG.out).mono ?_); rintro e w1 ⟨rfl, hbw1⟩; have HG1 := Lib.hid (HG.out.below hbw1); have HV1 := Lib.hid (HV.out.below hbw1)) | (at_builtin; refine wpList_appB _ rfl _ _ 32 rfl w1.heap.size 5 ulB infoB _ [] rfl (emptyOw w1) _ b rfl (HV1.out.alloc _) (by simp; omega) (by simp) ?_; intro u2 w2 ho2 _ hb2; rw [List.nil_append] at ho2; have hs2 : w1.heap.size < w2.heap.size := (by have := hb2.size; simp at this; omega); obtain ⟨g, cap, A2, k2, rfl, hg1, hg2, hg3⟩ := ownG ho2 hs2; have HO2 := Lib.hid ho2; have HI2 := Lib.hid (show IsB w2 (.slice A2 b.length k2) b from (IsR.of_own ho2).bytes); have hb12 : Below w1.heap.size w1 w2 := ((Below.refl _ _).alloc (Nat.le_refl _) _).trans hb2; have HG2 := Lib.hid (HG1.out.below hb12); have HV2 := Lib.hid (HV1.out.below hb12); clear ho2 hb2) | ((go_at_call 40); (with_reducible refine (HP.out _ _ HG2.out HI2.out).mono ?_); rintro e w3 ⟨q, o, hq1, ho0, ho1, rfl, hbw3⟩; have hq0 : ¬ (q = 0) := (by omega); have HO3 := Lib.hid (OwB.below HO2.out hbw3); have HV3 := Lib.hid (HV2.out.below hbw3); have HI3 := Lib.hid (HI2.out.below hbw3); have K3 := Lib.hid (Blk.new w3 38 #[.int .i64 q, .int .i64 o])) | ((go_at_call 21); (with_reducible refine (HB.out _ _ _ (HI3.out.alloc _) (HV3.out.alloc _)).mono ?_); rintro e w4 ⟨rfl, hbw4⟩))
  have HO4 := Lib.hid (OwB.below (OwB.alloc HO3.out (.cells #[.int .i64 q, .int .i64 o] 38)) hbw4)
  have K4 := Lib.hid (K3.out.call hbw4)
  go_loopw [6] (fun i wr => IncRel g cap b.length w1.heap.size w4 i wr) (fun i _ => b.length - (RowKit.intOf i).toNat)
  case atStart => exact ⟨0, b, by omega, rfl, OutB.refl _ _, rfl, fun h => by obtain ⟨h1, h2⟩ := hg3 h; have := HO4.out; rw [h1, h2] at this; exact this⟩
  case round =>
    obtain ⟨j, l, hj, rfl, hout, hll, hown⟩ := hrel
    by_cases hlt : (j : Int) < b.length
    · have hn : 0 < b.length := by omega
      obtain ⟨rfl, rfl⟩ := hg3 hn
      have ho := hown hn
      obtain ⟨hcell, hfz⟩ := OwB.cells ho (by omega)
      have cj := hcell j (by omega)
      have fj := hfz j
      obtain ⟨y, hy, y0, y1⟩ := u8_next (bat l j) (bat_pos l j) (bat_lt l j)
      have HO := Lib.hid ho
      have HT := Lib.hid hout
      have HLL := Lib.hid hll
      clear hcell hfz hown ho hout hll
      generalize bat l j = x at *
      go_wp2
      go_roundw
      case rel => exact ⟨j + 1, l.set j (UInt8.ofNat y.toNat), by omega, by go_num, HT.out.store _ _, by rw [List.length_set]; exact HLL.out, fun _ => OwB.put HO.out j y y0 y1⟩
      case measure => simp [RowKit.intOf]; omega
    · have s1 := hbw1.size
      have s2 := hb12.size
      have s3 := hbw3.size
      have s4 := hbw4.size
      simp at s4
      have hw4 : Below w.heap.size w w4 := (((hbw1.trans (hb12.mono s1)).trans (hbw3.mono (by omega))).alloc (by omega) _).trans (hbw4.mono (by simp; omega))
      have hwr : Below w.heap.size w wr := hw4.trans (hout.below (by omega))
      have Kr := hout.blk K4.out (by omega)
      have K := Lib.hid Kr
      have qK := Kr.q
      have lK := Kr.lt
      have hcur := Lib.hid hwr
      have hge : (b.length : Int) ≤ j := by omega
      clear Kr hwr hw4 hout hown hll s1 s2 s3 s4
      go_wp2_with (first | ((go_at_call 36); (with_reducible refine (HM.out _ (HG.out.below hcur.out)).mono ?_); rintro e w5 ⟨rfl, hbz⟩; have hcur := Lib.hid (hcur.out.trans (hbz.mono hcur.out.size)); have K := Lib.hid (K.out.call hbz); have qK := K.out.q; have lK := K.out.lt; clear hbz) | ((go_at_call 42); (with_reducible refine (HR.out _ (HV.out.below hcur.out)).mono ?_); rintro e w6 ⟨rfl, hbz⟩; have hcur := Lib.hid (hcur.out.trans (hbz.mono hcur.out.size)); have K := Lib.hid (K.out.call hbz); have qK := K.out.q; have lK := K.out.lt; clear hbz) | ((go_at_call 41); (with_reducible refine (HQ.out _).mono ?_); rintro e w7 ⟨rfl, hbz⟩; have hcur := Lib.hid (hcur.out.trans (hbz.mono hcur.out.size)); have K := Lib.hid (K.out.call hbz); have qK := K.out.q; have lK := K.out.lt; clear hbz))
      go_loopw [11] (fun i w8 => i = .int .i64 0 ∧ w8 = w7) (fun _ _ => 0)
      case atStart => exact ⟨rfl, rfl⟩
      case round =>
        obtain ⟨rfl, rfl⟩ := hrel
        go_wp2
        go_ret
        exact ⟨rfl, hcur.out⟩

set_option maxRecDepth 100000 in
set_option maxHeartbeats 16000000 in
theorem cop_some (v : Value) (b : List UInt8) (ms : List Pol) (w : World) (hv : IsB w v b) (hG : Glo w) (hl : b.length ≤ 3000) (hp : parPs b = some ms) : Calls Tryz.prog 13 #[v] w (RetB (.bool true) w) := by
  have hlen := hv.len (P := Tryz.prog) ulB
  obtain ⟨A, k, rfl⟩ := isB_slice hv
  have hpe := rparPs_eq (b := b) (by omega)
  rw [hp] at hpe
  have hz := szP_par (by omega) hp
  have hmar := parPs_mar hp
  have ho : okP ms = true := by
    unfold marP at hmar
    split at hmar
    · assumption
    · cases hmar
  have hsq : seqL (ms.map polL) = b := by unfold marP at hmar; rw [if_pos ho] at hmar; exact Option.some.inj hmar
  have hfl : (ms.map polL).flatten.length ≤ 900000 := by have := seqL_len (ms.map polL); rw [hsq] at this; omega
  have hbl : 0 < b.length := by have := seqL_len (ms.map polL); have h2 := PolKDone.seq_two (ms.map polL); rw [hsq] at this h2; omega
  have HBL := Lib.hid hbl
  have HA : Hid (∀ W, Glo W → Calls Tryz.prog 14 #[] W (RetB (.bool true) W)) := awake17
  have HP : Hid (∀ W u, Glo W → IsB W u b → Calls Tryz.prog 40 #[u] W (fun e w' => ∃ A k, e = .returned (.tuple #[.slice A ms.length k, errV (0, 0)]) ∧ OwL (repS repA) (fun _ => True) w' W.heap.size 66 (.slice A ms.length k) ms ∧ Below W.heap.size W w')) := fun W u g h => by
    have := polParse u b W g h (by omega)
    rw [hp] at this
    exact this.mono fun e w' hh => by
      obtain ⟨hb, A, k, he, ho⟩ := hh
      exact ⟨A, k, he, ho, hb⟩
  have HR : Hid (∀ W, IsB W (.slice A b.length k) b → Calls Tryz.prog 42 #[.slice A b.length k] W (RetRPw ms W)) := fun W h => rParP_own _ b ms W h (by omega) hpe
  have HM : Hid (∀ W a, Glo W → IsPs W a ms → Calls Tryz.prog 36 #[a] W (RetOidY b W)) := fun W a g h => by have := polMar_yes a ms W g h hz hfl ho; rwa [hsq] at this
  have HQ : Hid (∀ W x y, IsPs W x ms → IsPs W y ms → Calls Tryz.prog 41 #[x, y] W (RetB (.bool true) W)) := fun W x y h1 h2 => by have := basP x y ms ms W h1 h2; rwa [decide_eq_true rfl] at this
  have HB : Hid (∀ W x y, IsB W x b → IsB W y b → Calls Tryz.prog 21 #[x, y] W (RetB (.bool true) W)) := fun W x y h1 h2 => by have := bytes_any x y b b W h1 h2; rwa [decide_eq_true rfl] at this
  have hl' : (b.length : Int) ≤ 3000 := by omega
  have HG := Lib.hid hG
  have HV := Lib.hid hv
  simp only [errV] at HP
  clear hv hG hl hp hpe hz hmar ho hsq hfl hbl
  go_enter Tryz.func13, Tryz.ntmps13
  go_wp2_with (first | ((go_at_call 14); (with_reducible refine (HA.out _ HG.out).mono ?_); rintro e w1 ⟨rfl, hbw1⟩; have HG1 := Lib.hid (HG.out.below hbw1); have HV1 := Lib.hid (HV.out.below hbw1)) | (at_builtin; refine wpList_appB _ rfl _ _ 32 rfl w1.heap.size 5 ulB infoB _ [] rfl (emptyOw w1) _ b rfl (HV1.out.alloc _) (by simp; omega) (by simp) ?_; intro u2 w2 ho2 _ hb2; rw [List.nil_append] at ho2; have hs2 : w1.heap.size < w2.heap.size := (by have := hb2.size; simp at this; omega); obtain ⟨g, cap, A2, k2, rfl, hg1, hg2, hg3⟩ := ownG ho2 hs2; have HO2 := Lib.hid ho2; have HI2 := Lib.hid (show IsB w2 (.slice A2 b.length k2) b from (IsR.of_own ho2).bytes); have hb12 : Below w1.heap.size w1 w2 := ((Below.refl _ _).alloc (Nat.le_refl _) _).trans hb2; have HG2 := Lib.hid (HG1.out.below hb12); have HV2 := Lib.hid (HV1.out.below hb12); clear ho2 hb2) | ((go_at_call 40); (with_reducible refine (HP.out _ _ HG2.out HI2.out).mono ?_); rintro e w3 ⟨A3, k3, rfl, ho3, hbw3⟩; have HP3 := Lib.hid ho3; clear ho3; have HO3 := Lib.hid (OwB.below HO2.out hbw3); have HV3 := Lib.hid (HV2.out.below hbw3); have HI3 := Lib.hid (HI2.out.below hbw3); have K3 := Lib.hid (Blk.new w3 38 #[.int .i64 0, .int .i64 0])) | ((go_at_call 21); (with_reducible refine (HB.out _ _ _ (HI3.out.alloc _) (HV3.out.alloc _)).mono ?_); rintro e w4 ⟨rfl, hbw4⟩))
  have HO4 := Lib.hid (OwB.below (OwB.alloc HO3.out (.cells #[.int .i64 0, .int .i64 0] 38)) hbw4)
  have HP4 := Lib.hid (OwL.below (OwL.alloc HP3.out (.cells #[.int .i64 0, .int .i64 0] 38)) hbw4)
  have K4 := Lib.hid (K3.out.call hbw4)
  go_loopw [6] (fun i wr => IncRel g cap b.length w1.heap.size w4 i wr) (fun i _ => b.length - (RowKit.intOf i).toNat)
  case atStart => exact ⟨0, b, by omega, rfl, OutB.refl _ _, rfl, fun h => by obtain ⟨h1, h2⟩ := hg3 h; have := HO4.out; rw [h1, h2] at this; exact this⟩
  case round =>
    obtain ⟨j, lx, hj, rfl, hout, hll, hown⟩ := hrel
    by_cases hlt : (j : Int) < b.length
    · have hn : 0 < b.length := by omega
      obtain ⟨rfl, rfl⟩ := hg3 hn
      have ho := hown hn
      obtain ⟨hcell, hfz⟩ := OwB.cells ho (by omega)
      have cj := hcell j (by omega)
      have fj := hfz j
      obtain ⟨y, hy, y0, y1⟩ := u8_next (bat lx j) (bat_pos lx j) (bat_lt lx j)
      have HO := Lib.hid ho
      have HT := Lib.hid hout
      have HLL := Lib.hid hll
      clear hcell hfz hown ho hout hll
      generalize bat lx j = x at *
      go_wp2
      go_roundw
      case rel => exact ⟨j + 1, lx.set j (UInt8.ofNat y.toNat), by omega, by go_num, HT.out.store _ _, by rw [List.length_set]; exact HLL.out, fun _ => OwB.put HO.out j y y0 y1⟩
      case measure => simp [RowKit.intOf]; omega
    · have s1 := hbw1.size
      have s2 := hb12.size
      have s3 := hbw3.size
      have s4 := hbw4.size
      simp at s4
      have hw4 : Below w.heap.size w w4 := (((hbw1.trans (hb12.mono s1)).trans (hbw3.mono (by omega))).alloc (by omega) _).trans (hbw4.mono (by simp; omega))
      have hwr : Below w.heap.size w wr := hw4.trans (hout.below (by omega))
      have Kr := hout.blk K4.out (by omega)
      have K := Lib.hid Kr
      have qK := Kr.q
      have lK := Kr.lt
      have hcur := Lib.hid hwr
      have HL := Lib.hid (hout.rowL HP4.out hg2)
      have HPr := Lib.hid (isPs_of (hout.rowL HP4.out hg2).isL)
      have hge : (b.length : Int) ≤ j := by omega
      clear Kr hwr hw4 hout hown hll s1 s2 s3 s4
      go_wp2_with (first | ((go_at_call 36); (with_reducible refine (HM.out _ _ (HG.out.below hcur.out) HPr.out).mono ?_); rintro e w5 ⟨v5, rfl, ho5, hbw5⟩; obtain ⟨g5, c5, rfl, hg51, hg52, _, _⟩ := OwB.row (w := w5) (base := wr.heap.size) ho5 HBL.out; have HO5 := Lib.hid (show OwB w5 wr.heap.size 5 (.slice (some ⟨g5, 0, none⟩) b.length c5) b from ho5); have HX5 := Lib.hid hbw5; have hcur := Lib.hid (hcur.out.trans (hbw5.mono hcur.out.size)); have K := Lib.hid (K.out.call hbw5); have qK := K.out.q; have lK := K.out.lt; clear ho5) | ((go_at_call 42); (with_reducible refine (HR.out _ (HV.out.below hcur.out)).mono ?_); rintro e w6 ⟨A6, k6, rfl, ho6, hbw6⟩; have HO6 := Lib.hid ho6; have HI6 := Lib.hid (isPs_of ho6.isL); have HX6 := Lib.hid (HX5.out.trans (hbw6.mono HX5.out.size)); have hcur := Lib.hid (hcur.out.trans (hbw6.mono hcur.out.size)); have K := Lib.hid (K.out.call hbw6); have qK := K.out.q; have lK := K.out.lt; have HO56 := Lib.hid (OwB.below HO5.out hbw6); have HI36 := Lib.hid (HPr.out.below HX6.out); clear ho6) | ((go_at_call 41); (with_reducible refine (HQ.out _ _ _ HI36.out HI6.out).mono ?_); rintro e w7 ⟨rfl, hbw7⟩; have HO7 := Lib.hid (OwB.below HO56.out hbw7); have HR7 := Lib.hid (OwL.below HO6.out hbw7); have K7 := Lib.hid (K.out.call hbw7); have HX7 := Lib.hid (HX6.out.trans (hbw7.mono HX6.out.size)); have hs56 := hbw6.size))
      obtain ⟨wm, rfl⟩ : ∃ x, x = wr := ⟨_, rfl⟩
      go_loopw [11] (fun i w8 => IncRel g5 c5 b.length wm.heap.size w7 i w8) (fun i _ => b.length - (RowKit.intOf i).toNat)
      case atStart => exact ⟨0, b, by omega, rfl, OutB.refl _ _, rfl, fun _ => HO7.out⟩
      case round =>
        obtain ⟨j2, lx, hj2, rfl, hout, hll, hown⟩ := hrel
        by_cases hlt2 : (j2 : Int) < b.length
        · have ho := hown HBL.out
          obtain ⟨hcell, hfz⟩ := OwB.cells ho (by omega)
          have cj := hcell j2 (by omega)
          have fj := hfz j2
          obtain ⟨y, hy, y0, y1⟩ := u8_next (bat lx j2) (bat_pos lx j2) (bat_lt lx j2)
          have HO := Lib.hid ho
          have HT := Lib.hid hout
          have HLL := Lib.hid hll
          clear hcell hfz hown ho hout hll
          generalize bat lx j2 = x at *
          go_wp2
          go_roundw
          case rel => exact ⟨j2 + 1, lx.set j2 (UInt8.ofNat y.toNat), by omega, by go_num, HT.out.store _ _, by rw [List.length_set]; exact HLL.out, fun _ => OwB.put HO.out j2 y y0 y1⟩
          case measure => simp [RowKit.intOf]; omega
        · have HV8 := Lib.hid (HPr.out.below (HX7.out.trans (hout.below hg51)))
          have HR8 := Lib.hid (isPs_of (hout.rowL HR7.out hg52).isL)
          have hcz := hcur.out.size
          have hcur := Lib.hid ((hcur.out.trans (HX7.out.mono hcz)).trans (hout.below (by omega)))
          have hge2 : (b.length : Int) ≤ j2 := by omega
          clear hout hown hll K qK lK
          go_wp2_with (first | ((go_at_call 41); (with_reducible refine (HQ.out _ _ _ HV8.out HR8.out).mono ?_); rintro e w9 ⟨rfl, hbw9⟩; have hcur := Lib.hid (hcur.out.trans (hbw9.mono hcur.out.size))))
          go_ret
          exact ⟨rfl, hcur.out⟩

theorem walk (v : Value) (b : List UInt8) (w : World) (hv : IsB w v b) (hG : Glo w) : Calls Tryz.prog 13 #[v] w (RetB (.bool true) w) := by
  by_cases hl : b.length ≤ 3000
  · cases hp : parPs b with
    | none => exact cop_none v b w hv hG hl hp
    | some x => exact cop_some v b x w hv hG hl hp
  · exact long v b w hv hG (by omega)
end Go.Proofs.YtjjkimjdmpeddaaGreatDoor.PolKDone
end
