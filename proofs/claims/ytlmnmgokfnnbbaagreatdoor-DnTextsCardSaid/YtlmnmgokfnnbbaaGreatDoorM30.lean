/- The parts RefS, RefSB, RefT of one proof, one behind the other. -/
import Derived.Test.YtlmnmgokfnnbbaaGreatDoorM20
import Derived.Test.YtlmnmgokfnnbbaaGreatDoorM09
import Derived.LoopTactic
import Derived.Test.YtlmnmgokfnnbbaaGreatDoorM15

/- Walks over the reference's layer 7 (charset): Octets, Points. -/
section
set_option linter.unusedSimpArgs false
set_option linter.unusedVariables false
namespace Go.Proofs.YtlmnmgokfnnbbaaGreatDoor
open Go.RowKit Go.Cr
set_option maxRecDepth 100000 in
set_option maxHeartbeats 4000000 in
theorem octets_no (c : Nat) (w : World) (h1 : c < 1099511627776) (hk : okc c = false) : Calls Tryz.prog 192 #[.int .i64 (c : Int)] w (RetO 5 [] w) := by
  have hc : (1114111 < (c : Int)) ∨ (55296 ≤ (c : Int) ∧ (c : Int) < 57344) := by
    rcases Classical.em (okc c = true) with h | h
    · rw [hk] at h; cases h
    · rw [okc_iff] at h; omega
  clear hk
  rcases hc with h | ⟨h2, h3⟩
  · go_enter Tryz.func192, Tryz.ntmps192
    go_wp2_with fail
    go_ret
    exact ⟨_, rfl, OwB.nil_ _ _ _, by ((repeat' (first | (with_reducible exact Below.refl _ _) | (with_reducible assumption) | (with_reducible refine Below.setCell ?_ ?_ _) | (with_reducible refine Below.alloc ?_ ?_ _) | (with_reducible refine Below.drew ?_) | (with_reducible refine below_drewN ?_ _) | (with_reducible refine Below.step (by with_reducible assumption) ?_ ?_))) <;> (first | omega | (simp; done) | (simp; omega)))⟩
  · have h4 : (c : Int) ≤ 1114111 := by omega
    go_enter Tryz.func192, Tryz.ntmps192
    go_wp2_with fail
    go_ret
    exact ⟨_, rfl, OwB.nil_ _ _ _, by ((repeat' (first | (with_reducible exact Below.refl _ _) | (with_reducible assumption) | (with_reducible refine Below.setCell ?_ ?_ _) | (with_reducible refine Below.alloc ?_ ?_ _) | (with_reducible refine Below.drew ?_) | (with_reducible refine below_drewN ?_ _) | (with_reducible refine Below.step (by with_reducible assumption) ?_ ?_))) <;> (first | omega | (simp; done) | (simp; omega)))⟩
theorem u8bi (x : Nat) : bi (UInt8.ofNat x) = ((x : Int) % 256) := by rw [bi_ofNat]; omega
set_option maxRecDepth 100000 in
set_option maxHeartbeats 4000000 in
theorem octets_1 (c : Nat) (w : World) (h : c ≤ 127) : Calls Tryz.prog 192 #[.int .i64 (c : Int)] w (RetO 5 (enc1 c) w) := by
  have hbc : ∃ b : List UInt8, enc1 c = b ∧ b.length = 1 ∧ bCells b = [.int .u8 ((c : Int))] := by
    refine ⟨_, enc1_one h, rfl, ?_⟩
    have z0 : bi (UInt8.ofNat (c)) = (c : Int) := by rw [u8bi]; omega
    simp only [bCells, List.map_cons, List.map_nil, z0]
  obtain ⟨b, hb1, hb2, hb3⟩ := hbc
  rw [hb1]
  have H2 := Lib.hid hb2
  have H3 := Lib.hid hb3
  obtain ⟨d, hd⟩ : ∃ d : Int, (c : Int) = d := ⟨_, rfl⟩
  simp only [hd] at H3 ⊢
  have k1 : d < 128 := by omega
  have k0 : 0 ≤ d := by omega
  clear h
  clear hb1 hb2 hb3 hd
  go_enter Tryz.func192, Tryz.ntmps192
  go_wp2_with fail
  go_ret
  have hr := World.ownsRow_lit (base := w.heap.size) (e := 5) (size := 1) w #[.int .u8 (d)] 1 (Nat.le_refl _) (by decide) rfl
  refine ⟨_, rfl, ?_, (Below.refl _ _).alloc (Nat.le_refl _) _⟩
  unfold OwB
  rw [H2.out, H3.out]
  exact hr
set_option maxRecDepth 100000 in
set_option maxHeartbeats 4000000 in
theorem octets_2 (c : Nat) (w : World) (h0 : 128 ≤ c) (h : c ≤ 2047) : Calls Tryz.prog 192 #[.int .i64 (c : Int)] w (RetO 5 (enc1 c) w) := by
  have hbc : ∃ b : List UInt8, enc1 c = b ∧ b.length = 2 ∧ bCells b = [.int .u8 (192 + (c : Int) / 64), .int .u8 (128 + (c : Int) % 64)] := by
    refine ⟨_, enc1_two h0 h, rfl, ?_⟩
    have z0 : bi (UInt8.ofNat (192 + c / 64)) = 192 + (c : Int) / 64 := by rw [u8bi]; omega
    have z1 : bi (UInt8.ofNat (128 + c % 64)) = 128 + (c : Int) % 64 := by rw [u8bi]; omega
    simp only [bCells, List.map_cons, List.map_nil, z0, z1]
  obtain ⟨b, hb1, hb2, hb3⟩ := hbc
  rw [hb1]
  have H2 := Lib.hid hb2
  have H3 := Lib.hid hb3
  obtain ⟨d, hd⟩ : ∃ d : Int, (c : Int) = d := ⟨_, rfl⟩
  simp only [hd] at H3 ⊢
  have k1 : 128 ≤ d := by omega
  have k2 : d < 2048 := by omega
  clear h0 h
  clear hb1 hb2 hb3 hd
  go_enter Tryz.func192, Tryz.ntmps192
  go_wp2_with fail
  go_ret
  have hr := World.ownsRow_lit (base := w.heap.size) (e := 5) (size := 1) w #[.int .u8 (192 + d / 64), .int .u8 (128 + d % 64)] 2 (Nat.le_refl _) (by decide) rfl
  refine ⟨_, rfl, ?_, (Below.refl _ _).alloc (Nat.le_refl _) _⟩
  unfold OwB
  rw [H2.out, H3.out]
  exact hr
set_option maxRecDepth 100000 in
set_option maxHeartbeats 4000000 in
theorem octets_3a (c : Nat) (w : World) (h0 : 2048 ≤ c) (h : c < 55296) : Calls Tryz.prog 192 #[.int .i64 (c : Int)] w (RetO 5 (enc1 c) w) := by
  have hbc : ∃ b : List UInt8, enc1 c = b ∧ b.length = 3 ∧ bCells b = [.int .u8 (224 + (c : Int) / 4096), .int .u8 (128 + (c : Int) / 64 % 64), .int .u8 (128 + (c : Int) % 64)] := by
    refine ⟨_, enc1_three h0 (by omega) (.inl h), rfl, ?_⟩
    have z0 : bi (UInt8.ofNat (224 + c / 4096)) = 224 + (c : Int) / 4096 := by rw [u8bi]; omega
    have z1 : bi (UInt8.ofNat (128 + c / 64 % 64)) = 128 + (c : Int) / 64 % 64 := by rw [u8bi]; omega
    have z2 : bi (UInt8.ofNat (128 + c % 64)) = 128 + (c : Int) % 64 := by rw [u8bi]; omega
    simp only [bCells, List.map_cons, List.map_nil, z0, z1, z2]
  obtain ⟨b, hb1, hb2, hb3⟩ := hbc
  rw [hb1]
  have H2 := Lib.hid hb2
  have H3 := Lib.hid hb3
  obtain ⟨d, hd⟩ : ∃ d : Int, (c : Int) = d := ⟨_, rfl⟩
  simp only [hd] at H3 ⊢
  have k1 : 2048 ≤ d := by omega
  have k2 : d < 55296 := by omega
  clear h0 h
  clear hb1 hb2 hb3 hd
  go_enter Tryz.func192, Tryz.ntmps192
  go_wp2_with fail
  go_ret
  have hr := World.ownsRow_lit (base := w.heap.size) (e := 5) (size := 1) w #[.int .u8 (224 + d / 4096), .int .u8 (128 + d / 64 % 64), .int .u8 (128 + d % 64)] 3 (Nat.le_refl _) (by decide) rfl
  refine ⟨_, rfl, ?_, (Below.refl _ _).alloc (Nat.le_refl _) _⟩
  unfold OwB
  rw [H2.out, H3.out]
  exact hr
set_option maxRecDepth 100000 in
set_option maxHeartbeats 4000000 in
theorem octets_3b (c : Nat) (w : World) (h0 : 57344 ≤ c) (h : c ≤ 65535) : Calls Tryz.prog 192 #[.int .i64 (c : Int)] w (RetO 5 (enc1 c) w) := by
  have hbc : ∃ b : List UInt8, enc1 c = b ∧ b.length = 3 ∧ bCells b = [.int .u8 (224 + (c : Int) / 4096), .int .u8 (128 + (c : Int) / 64 % 64), .int .u8 (128 + (c : Int) % 64)] := by
    refine ⟨_, enc1_three (by omega) h (.inr h0), rfl, ?_⟩
    have z0 : bi (UInt8.ofNat (224 + c / 4096)) = 224 + (c : Int) / 4096 := by rw [u8bi]; omega
    have z1 : bi (UInt8.ofNat (128 + c / 64 % 64)) = 128 + (c : Int) / 64 % 64 := by rw [u8bi]; omega
    have z2 : bi (UInt8.ofNat (128 + c % 64)) = 128 + (c : Int) % 64 := by rw [u8bi]; omega
    simp only [bCells, List.map_cons, List.map_nil, z0, z1, z2]
  obtain ⟨b, hb1, hb2, hb3⟩ := hbc
  rw [hb1]
  have H2 := Lib.hid hb2
  have H3 := Lib.hid hb3
  obtain ⟨d, hd⟩ : ∃ d : Int, (c : Int) = d := ⟨_, rfl⟩
  simp only [hd] at H3 ⊢
  have k1 : 57344 ≤ d := by omega
  have k2 : d < 65536 := by omega
  clear h0 h
  clear hb1 hb2 hb3 hd
  go_enter Tryz.func192, Tryz.ntmps192
  go_wp2_with fail
  go_ret
  have hr := World.ownsRow_lit (base := w.heap.size) (e := 5) (size := 1) w #[.int .u8 (224 + d / 4096), .int .u8 (128 + d / 64 % 64), .int .u8 (128 + d % 64)] 3 (Nat.le_refl _) (by decide) rfl
  refine ⟨_, rfl, ?_, (Below.refl _ _).alloc (Nat.le_refl _) _⟩
  unfold OwB
  rw [H2.out, H3.out]
  exact hr
set_option maxRecDepth 100000 in
set_option maxHeartbeats 4000000 in
theorem octets_4 (c : Nat) (w : World) (h0 : 65536 ≤ c) (h : c ≤ 1114111) : Calls Tryz.prog 192 #[.int .i64 (c : Int)] w (RetO 5 (enc1 c) w) := by
  have hbc : ∃ b : List UInt8, enc1 c = b ∧ b.length = 4 ∧ bCells b = [.int .u8 (240 + (c : Int) / 262144), .int .u8 (128 + (c : Int) / 4096 % 64), .int .u8 (128 + (c : Int) / 64 % 64), .int .u8 (128 + (c : Int) % 64)] := by
    refine ⟨_, enc1_four h0 h, rfl, ?_⟩
    have z0 : bi (UInt8.ofNat (240 + c / 262144)) = 240 + (c : Int) / 262144 := by rw [u8bi]; omega
    have z1 : bi (UInt8.ofNat (128 + c / 4096 % 64)) = 128 + (c : Int) / 4096 % 64 := by rw [u8bi]; omega
    have z2 : bi (UInt8.ofNat (128 + c / 64 % 64)) = 128 + (c : Int) / 64 % 64 := by rw [u8bi]; omega
    have z3 : bi (UInt8.ofNat (128 + c % 64)) = 128 + (c : Int) % 64 := by rw [u8bi]; omega
    simp only [bCells, List.map_cons, List.map_nil, z0, z1, z2, z3]
  obtain ⟨b, hb1, hb2, hb3⟩ := hbc
  rw [hb1]
  have H2 := Lib.hid hb2
  have H3 := Lib.hid hb3
  obtain ⟨d, hd⟩ : ∃ d : Int, (c : Int) = d := ⟨_, rfl⟩
  simp only [hd] at H3 ⊢
  have k1 : 65536 ≤ d := by omega
  have k2 : d ≤ 1114111 := by omega
  clear h0 h
  clear hb1 hb2 hb3 hd
  go_enter Tryz.func192, Tryz.ntmps192
  go_wp2_with fail
  go_ret
  have hr := World.ownsRow_lit (base := w.heap.size) (e := 5) (size := 1) w #[.int .u8 (240 + d / 262144), .int .u8 (128 + d / 4096 % 64), .int .u8 (128 + d / 64 % 64), .int .u8 (128 + d % 64)] 4 (Nat.le_refl _) (by decide) rfl
  refine ⟨_, rfl, ?_, (Below.refl _ _).alloc (Nat.le_refl _) _⟩
  unfold OwB
  rw [H2.out, H3.out]
  exact hr
theorem octets_yes (c : Nat) (w : World) (hk : okc c = true) : Calls Tryz.prog 192 #[.int .i64 (c : Int)] w (RetO 5 (enc1 c) w) := by
  rcases enc_cases hk with h | ⟨h0, h⟩ | ⟨h0, h, hs⟩ | ⟨h0, h⟩
  · exact octets_1 c w h
  · exact octets_2 c w h0 h
  · rcases hs with hs | hs
    · exact octets_3a c w h0 hs
    · exact octets_3b c w hs h
  · exact octets_4 c w h0 h
theorem octets_any (c : Nat) (w : World) (h1 : c < 1099511627776) : Calls Tryz.prog 192 #[.int .i64 (c : Int)] w (RetO 5 (octsR (c : Int)) w) := by
  cases hk : okc (c : Int) with
  | true => rw [octsR_ok hk]; exact octets_yes c w hk
  | false => rw [show octsR (c : Int) = [] by unfold octsR; rw [hk]; rfl]; exact octets_no c w h1 hk

/-! ### Points -/
theorem ulInts : Tryz.prog.underlying 211 = some (.slice 3) := by kernel_rfl
theorem infoInt : (Tryz.prog.info? 3).map (fun i => (i.zero, i.size, i.bytes)) = some (some (.int .i64 0), 1, 8) := by kernel_rfl
def RetPt (o : Option (List Nat)) (w : World) (e : Ending) (w' : World) : Prop := Below w.heap.size w w' ∧ ((o = none ∧ e = .returned (.tuple #[.slice none 0 0, .bool false])) ∨ ∃ cs v, o = some cs ∧ e = .returned (.tuple #[v, .bool true]) ∧ IsU .i64 w' v cs)
def PtRel (l : List UInt8) (r : Option (List Nat)) (w : World) (out ix : Value) (wr : World) : Prop :=
  ∃ (i : Nat) (pre : List Nat), ix = .int .i64 i ∧ i ≤ l.length ∧ pre.length ≤ i ∧ (pts (l.drop i)).map (fun t => pre ++ t) = r ∧ wr.ownsRow w.heap.size 3 1 out pre.length (uCells .i64 pre) ∧ Below w.heap.size w wr
def PiRel (l : List UInt8) (i n : Nat) (r : Option Nat) (xx kk : Value) : Prop := ∃ k x : Nat, kk = .int .i64 k ∧ xx = .int .i64 x ∧ 1 ≤ k ∧ k ≤ n + 1 ∧ x < 128 * 64 ^ (k - 1) ∧ contR x ((l.drop (i + k)).take (n + 1 - k)) = r
theorem p64 {k : Nat} (h : k ≤ 4) : 128 * 64 ^ (k - 1) ≤ 33554432 := by
  have : (64 : Nat) ^ (k - 1) ≤ 64 ^ 3 := Nat.pow_le_pow_right (by decide) (by omega)
  have e : (64 : Nat) ^ 3 = 262144 := by decide
  omega
theorem headR_drop (l : List UInt8) (i : Nat) : headR (l.drop i) = match leadR (l.getD i 0).toNat with
  | none => none
  | some (n, x) => if l.length ≤ i + n then none else match contR x ((l.drop (i + 1)).take n) with
    | none => none
    | some c => if octsR c = (l.drop i).take (n + 1) then some (c, n) else none := by
  have h0 : (l.drop i).getD 0 0 = l.getD i 0 := by simp
  unfold headR
  rw [h0]
  cases leadR (l.getD i 0).toNat with
  | none => rfl
  | some p =>
    obtain ⟨n, x⟩ := p
    simp only [List.length_drop, List.drop_drop]
    by_cases h : l.length ≤ i + n
    · rw [if_pos h, if_pos (by omega)]
    · rw [if_neg h, if_neg (by omega)]
      cases contR x ((l.drop (i + 1)).take n) <;> rfl
theorem cut_str {s : ByteArray} {l : List UInt8} (hl : s.data.toList = l) (i n : Nat) (e : Int) (he : e = (i : Int) + n + 1) (h : i + n < s.size) : ∃ p : ByteArray, p.data.toList = (l.drop i).take (n + 1) ∧ ∀ W, (Instr.slice 9 (.string s) (some (.int .i64 (i : Int))) (some (.int .i64 e)) none).run Tryz.prog W = .ok (.string p) W := by
  subst he
  refine ⟨s.extract i (i + n + 1), ?_, fun W => ?_⟩
  · rw [Lib.extract_data, hl, show i + n + 1 - i = n + 1 by omega]
  · rw [run_slice_string W 9 _ .i64 .i64 _ _ ulS (by omega) (by omega) (by omega)]
    rw [show ((i : Int)).toNat = i by omega, show ((i : Int) + n + 1).toNat = i + n + 1 by omega]

end Go.Proofs.YtlmnmgokfnnbbaaGreatDoor
end

/- Walk over the reference's Points. -/
section
set_option linter.unusedSimpArgs false
set_option linter.unusedVariables false
namespace Go.Proofs.YtlmnmgokfnnbbaaGreatDoor
open Go.RowKit Go.Cr
theorem pts_more {pre : List Nat} {x : Nat} {A : Option (List Nat)} {r : Option (List Nat)} (h : (A.map (fun t => x :: t)).map (fun t => pre ++ t) = r) : A.map (fun t => (pre ++ [x]) ++ t) = r := by
  subst h
  cases A <;> simp
set_option maxRecDepth 100000 in
set_option maxHeartbeats 4000000 in
theorem points_any (s : ByteArray) (w : World) (hs : s.size ≤ 1000000) : Calls Tryz.prog 181 #[.string s] w (RetPt (pts s.data.toList) w) := by
  have hL : s.data.toList.length = s.size := rfl
  obtain ⟨l, hl⟩ : ∃ l, s.data.toList = l := ⟨_, rfl⟩
  have hbt : ∀ (k : Nat) (h : k < s.size), ((s[k]'h).toNat : Int) = bat l k := by
    intro k h
    rw [← hl, bat_eq _ _ (by omega)]
    rfl
  have hcut := fun i n e he h => cut_str (s := s) hl i n e he h
  rw [hl] at hL ⊢
  have HL := Lib.hid hL
  have HB := Lib.hid hbt
  have HC := Lib.hid hcut
  obtain ⟨r, hr⟩ : ∃ r, pts l = r := ⟨_, rfl⟩
  rw [hr]
  have HR := Lib.hid hr
  have HO : Hid (∀ (c : Nat) W, c < 1099511627776 → Calls Tryz.prog 192 #[.int .i64 (c : Int)] W (RetO 5 (octsR (c : Int)) W)) := fun c W h => octets_any c W h
  clear hL hbt hcut hl hr
  go_enter Tryz.func181, Tryz.ntmps181
  go_wp2_with fail
  go_loopw [4, 5] (fun out ix wr => PtRel l r w out ix wr) (fun _ ix _ => l.length + 1 - (intOf ix).toNat)
  case atStart => exact ⟨0, [], rfl, Nat.zero_le _, Nat.zero_le _, by rw [List.drop_zero, HR.out]; cases r <;> simp, World.ownsRow_nil _ _ _ _, Below.refl _ _⟩
  case round =>
    obtain ⟨i, pre, rfl, hil, hpl, hpt, hown, hbel⟩ := hrel
    have HO2 := Lib.hid hown
    have HB2 := Lib.hid hbel
    have HPT := Lib.hid hpt
    clear hown hbel hpt
    have hll := HL.out
    by_cases hlt : i < l.length
    · have hne : l.drop i ≠ [] := fun e => by
        have := congrArg List.length e
        simp at this
        omega
      have hks : i < s.size := by omega
      have hltI : (i : Int) < s.size := by omega
      have hx := HB.out i hks
      have hb0 := bat_pos l i
      have hb1 := bat_lt l i
      have hpt := HPT.out
      rw [pts_ref _ hne, headR_drop] at hpt
      have hbb : bat l i = ((l.getD i 0).toNat : Int) := rfl
      have HPT2 := Lib.hid hpt
      clear hpt hne
      rcases (show (240 ≤ bat l i ∧ bat l i < 248) ∨ (224 ≤ bat l i ∧ bat l i < 240) ∨ (192 ≤ bat l i ∧ bat l i < 224) ∨ (128 ≤ bat l i ∧ bat l i < 192) ∨ 248 ≤ bat l i ∨ bat l i < 128 by omega) with ⟨h1, h2⟩ | ⟨h1, h2⟩ | ⟨h1, h2⟩ | ⟨h1, h2⟩ | h1 | h1
      · have hld : leadR (l.getD i 0).toNat = some (3, (l.getD i 0).toNat - 240) := by
          unfold leadR
          rw [if_pos (by omega)]
        have hpt := HPT2.out
        rw [hld] at hpt
        simp only at hpt
        obtain ⟨x0, hx0⟩ : ∃ x0, (l.getD i 0).toNat - 240 = x0 := ⟨_, rfl⟩
        rw [hx0] at hpt
        have hxv : bat l i - 240 = (x0 : Int) := by omega
        have hx128 : x0 < 128 := by omega
        have HX := Lib.hid hxv
        have HX8 := Lib.hid hx128
        by_cases hn : l.length ≤ i + 3
        · rw [if_pos hn] at hpt
          have HPT3 := Lib.hid hpt
          have hnI : (s.size : Int) ≤ (i : Int) + 3 := by omega
          clear hpt hld hbb hn hx0 hxv hx128
          generalize bat l i = b at *
          go_wp2_with fail
          go_ret2
          exact ⟨HB2.out, .inl ⟨HPT3.out.symm, rfl⟩⟩
        · rw [if_neg hn] at hpt
          have hnI : (i : Int) + 3 < s.size := by omega
          obtain ⟨q, hq⟩ : ∃ q, contR x0 ((l.drop (i + 1)).take 3) = q := ⟨_, rfl⟩
          rw [hq] at hpt
          have HPT3 := Lib.hid hpt
          have HQ := Lib.hid hq
          have HN := Lib.hid hn
          clear hpt hld hbb hn hx0 hq hxv hx128
          generalize bat l i = b at *
          go_wp2_with fail
          go_loop [6, 8] (fun xx kk => PiRel l i 3 q xx kk) (fun _ kk => 3 + 2 - (intOf kk).toNat)
          case atStart => exact ⟨1, x0, rfl, by rw [HX.out], by omega, by omega, by have := HX8.out; simpa using this, HQ.out⟩
          case round =>
            obtain ⟨k, x, rfl, rfl, hk1, hk2, hxb, hct⟩ := hrel
            have hp := p64 (k := k) (by omega)
            have HXB := Lib.hid hxb
            have hx3 : (x : Int) < 33554432 := by omega
            have hn2 := HN.out
            by_cases hkn : k ≤ 3
            · obtain ⟨m, hm⟩ : ∃ m, m = i + k := ⟨_, rfl⟩
              have hlt2 : m < s.size := by omega
              have hy := HB.out m hlt2
              have hy0 := bat_pos l m
              have hy1 := bat_lt l m
              have hmI : (i : Int) + (k : Int) = (m : Int) := by omega
              have hmS : (m : Int) < s.size := by omega
              have hd : (l.drop (i + k)).take (3 + 1 - k) = l[m]'(by omega) :: (l.drop (i + (k + 1))).take (3 + 1 - (k + 1)) := by
                subst hm
                rw [List.drop_eq_getElem_cons (show i + k < l.length by omega), show 3 + 1 - k = (3 + 1 - (k + 1)) + 1 by omega, List.take_succ_cons]
                rfl
              rw [hd] at hct
              simp only [contR] at hct
              have hyv : bat l m = ((l[m]'(by omega)).toNat : Int) := bat_eq l m (by omega)
              have hkI : (k : Int) ≤ 3 := by omega
              by_cases hbad : bat l m < 128 ∨ 192 ≤ bat l m
              · rw [if_pos (by omega)] at hct
                have hpt := HPT3.out
                rw [← hct] at hpt
                have HPT4 := Lib.hid hpt
                clear hpt hct hyv hd hm hn2 hxb hp
                generalize bat l m = y at *
                rcases hbad with hbad | hbad
                · go_wp2_with fail
                  go_ret2
                  exact ⟨HB2.out, .inl ⟨HPT4.out.symm, rfl⟩⟩
                · have h128 : 128 ≤ y := by omega
                  go_wp2_with fail
                  go_ret2
                  exact ⟨HB2.out, .inl ⟨HPT4.out.symm, rfl⟩⟩
              · rw [if_neg (by omega)] at hct
                have h128 : 128 ≤ bat l m := by omega
                have h192 : bat l m < 192 := by omega
                obtain ⟨x', hx'⟩ : ∃ x', x * 64 + (l[m]'(by omega)).toNat - 128 = x' := ⟨_, rfl⟩
                rw [hx'] at hct
                have hxI : (x' : Int) = (x : Int) * 64 + bat l m - 128 := by omega
                have hxb2 : x' < 128 * 64 ^ (k + 1 - 1) := by
                  have e : (64 : Nat) ^ (k + 1 - 1) = 64 * 64 ^ (k - 1) := by
                    rw [show k + 1 - 1 = (k - 1) + 1 by omega, Nat.pow_succ, Nat.mul_comm]
                  rw [e]
                  generalize (64 : Nat) ^ (k - 1) = P at *
                  omega
                have HX' := Lib.hid hxI
                have HXB2 := Lib.hid hxb2
                have HCT := Lib.hid hct
                have d1 : decide (bat l m < 128) = false := decide_eq_false (by omega)
                have d2 : decide (192 ≤ bat l m) = false := decide_eq_false (by omega)
                clear hct hyv hd hm hn2 hxb hp hbad hx' hxI hxb2 h128 h192
                generalize bat l m = y at *
                go_wp2_with fail
                go_round
                case rel => exact ⟨k + 1, x', by go_num, by rw [HX'.out], by omega, by omega, HXB2.out, HCT.out⟩
                case measure => simp [intOf]; omega
            · have hke : k = 3 + 1 := by omega
              subst hke
              have hq2 : q = some x := by rw [← hct]; simp [contR]
              have hpt := HPT3.out
              rw [hq2] at hpt
              simp only at hpt
              obtain ⟨p, hp1, hp2⟩ := HC.out i 3 ((i : Int) + 3 + 1) (by omega) (by omega)
              have HO3 := Lib.hid (fun W => HO.out x W (by omega))
              have HPT4 := Lib.hid hpt
              have HP1 := Lib.hid hp1
              have hw1 : IntKind.i64.wrap ((i : Int) + 3) = (i : Int) + 3 := by rw [IntKind.wrap_i64]; omega
              have hw2 : IntKind.i64.wrap ((i : Int) + 3 + 1) = (i : Int) + 3 + 1 := by rw [IntKind.wrap_i64]; omega
              clear hpt hct hq2 hxb hn2 hp hp1 hkn
              by_cases he : octsR (x : Int) = (l.drop i).take (3 + 1)
              · have hpt := HPT4.out
                rw [if_pos he] at hpt
                simp only [List.drop_drop] at hpt
                have HPT5 := Lib.hid hpt
                have hps : bStr (octsR (x : Int)) = p := by
                  rw [he, ← HP1.out, bStr_eq]
                have HPS := Lib.hid hps
                have hbe : (p.toList == p.toList) = true := by simp
                clear hpt he hps
                go_wp2_with fail
                refine wp_region_held_drew (S := (fun _ : World => True)) (by kernel_rfl) trivial (fun hHeld => ?_)
                (refine take_want (i := 0) (d := some 72) ?_ (by kernel_rfl) (by kernel_rfl) (by kernel_rfl) (fun _ _ _ h => h) (by assumption) ?_ (by kernel_rfl) ?_; rotate_left; (· (intro o ho; simp only [List.getElem?_toArray, List.getElem?_cons_succ, List.getElem?_cons_zero, Option.some.injEq] at ho; subst ho; refine ⟨rfl, by rfl, fun w hSw => ?_⟩; (try dsimp only at hSw); go_simp; (first | done | with_reducible rfl))); simp only [Act.put, List.setIfInBounds_toArray, List.set_cons_zero, List.set_cons_succ])
                (refine take_want (i := 3) (d := some 75) ?_ (by kernel_rfl) (by kernel_rfl) (by kernel_rfl) (fun _ _ _ h => h) (by assumption) ?_ (by kernel_rfl) ?_; rotate_left; (· (intro o ho; simp only [List.getElem?_toArray, List.getElem?_cons_succ, List.getElem?_cons_zero, Option.some.injEq] at ho; subst ho; refine ⟨rfl, by rfl, fun w hSw => ?_⟩; (try dsimp only at hSw); go_simp; (first | done | with_reducible rfl))); simp only [Act.put, List.setIfInBounds_toArray, List.set_cons_zero, List.set_cons_succ])
                (refine take_want (i := 4) (d := some 76) ?_ (by kernel_rfl) (by kernel_rfl) (by kernel_rfl) (fun _ _ _ h => h) (by assumption) ?_ (by kernel_rfl) ?_; rotate_left; (· (intro o ho; simp only [List.getElem?_toArray, List.getElem?_cons_succ, List.getElem?_cons_zero, Option.some.injEq] at ho; subst ho; refine ⟨rfl, by rfl, fun w hSw => ?_⟩; (try dsimp only at hSw); go_simp; (first | done | with_reducible rfl))); simp only [Act.put, List.setIfInBounds_toArray, List.set_cons_zero, List.set_cons_succ])
                (refine take_want (i := 5) (d := some 77) ?_ (by kernel_rfl) (by kernel_rfl) (by kernel_rfl) (fun _ _ _ h => h) (by assumption) ?_ (by kernel_rfl) ?_; rotate_left; (· (intro o ho; simp only [List.getElem?_toArray, List.getElem?_cons_succ, List.getElem?_cons_zero, Option.some.injEq] at ho; subst ho; refine ⟨rfl, by rfl, fun w hSw => ?_⟩; (try dsimp only at hSw); go_simp; (first | done | with_reducible rfl))); simp only [Act.put, List.setIfInBounds_toArray, List.set_cons_zero, List.set_cons_succ])
                (refine take_want (i := 6) (d := some 78) ?_ (by kernel_rfl) (by kernel_rfl) (by kernel_rfl) (fun _ _ _ h => h) (by assumption) ?_ (by kernel_rfl) ?_; rotate_left; (· (intro o ho; simp only [List.getElem?_toArray, List.getElem?_cons_succ, List.getElem?_cons_zero, Option.some.injEq] at ho; subst ho; refine ⟨rfl, by rfl, fun w hSw => ?_⟩; (try dsimp only at hSw); go_simp; (first | done | with_reducible rfl))); simp only [Act.put, List.setIfInBounds_toArray, List.set_cons_zero, List.set_cons_succ])
                (refine take_want (i := 7) (d := some 79) ?_ (by kernel_rfl) (by kernel_rfl) (by kernel_rfl) (fun _ _ _ h => h) (by assumption) ?_ (by kernel_rfl) ?_; rotate_left; (· (intro o ho; simp only [List.getElem?_toArray, List.getElem?_cons_succ, List.getElem?_cons_zero, Option.some.injEq] at ho; subst ho; refine ⟨rfl, by rfl, fun w hSw => ?_⟩; (try dsimp only at hSw); go_simp; (first | done | with_reducible rfl))); simp only [Act.put, List.setIfInBounds_toArray, List.set_cons_zero, List.set_cons_succ])
                (refine take_want (i := 8) (d := some 80) ?_ (by kernel_rfl) (by kernel_rfl) (by kernel_rfl) (fun _ _ _ h => h) (by assumption) ?_ (by kernel_rfl) ?_; rotate_left; (· (intro o ho; simp only [List.getElem?_toArray, List.getElem?_cons_succ, List.getElem?_cons_zero, Option.some.injEq] at ho; subst ho; refine ⟨rfl, by rfl, fun w hSw => ?_⟩; (try dsimp only at hSw); go_simp; (first | done | with_reducible rfl))); simp only [Act.put, List.setIfInBounds_toArray, List.set_cons_zero, List.set_cons_succ])
                (refine take_want (i := 9) (d := some 81) ?_ (by kernel_rfl) (by kernel_rfl) (by kernel_rfl) (fun _ _ _ h => h) (by assumption) ?_ (by kernel_rfl) ?_; rotate_left; (· (intro o ho; simp only [List.getElem?_toArray, List.getElem?_cons_succ, List.getElem?_cons_zero, Option.some.injEq] at ho; subst ho; refine ⟨rfl, by rfl, fun w hSw => ?_⟩; (try dsimp only at hSw); go_simp; (first | done | with_reducible rfl))); simp only [Act.put, List.setIfInBounds_toArray, List.set_cons_zero, List.set_cons_succ])
                refine take_run (i := 1) (by kernel_rfl) (by kernel_rfl) ?_
                intro o ho K hK
                simp only [List.getElem?_toArray, List.getElem?_cons_succ, List.getElem?_cons_zero, Option.some.injEq] at ho
                subst ho
                go_simp
                go_at_call 192
                (with_reducible refine (HO3.out _).mono ?_)
                rintro e w1 ⟨v1, rfl, ho1, hbw1⟩
                obtain ⟨A1, c1, rfl⟩ := isB_slice ho1.isB
                have k1 := isB_bstr ho1.isB
                rw [HPS.out] at k1
                clear ho1
                try (go_wp2_with fail)
                refine hK.out _ _ trivial (fun hHeld2 => ?_)
                clear hK K hHeld
                try simp only [Act.put, List.setIfInBounds_toArray, List.set_cons_zero, List.set_cons_succ]
                refine take_run (i := 2) (by kernel_rfl) (by kernel_rfl) ?_
                intro o ho K hK
                simp only [List.getElem?_toArray, List.getElem?_cons_succ, List.getElem?_cons_zero, Option.some.injEq] at ho
                subst ho
                go_simp
                refine hK.out _ _ trivial (fun hHeld3 => ?_)
                clear hK K hHeld2
                try simp only [Act.put, List.setIfInBounds_toArray, List.set_cons_zero, List.set_cons_succ]
                (refine take_want (i := 10) (d := some 82) ?_ (by kernel_rfl) (by kernel_rfl) (by kernel_rfl) (fun _ _ _ h => h) (by assumption) ?_ (by kernel_rfl) ?_; rotate_left; (· (intro o ho; simp only [List.getElem?_toArray, List.getElem?_cons_succ, List.getElem?_cons_zero, Option.some.injEq] at ho; subst ho; refine ⟨rfl, by rfl, fun w hSw => ?_⟩; (try dsimp only at hSw); go_simp; (first | done | with_reducible rfl))); simp only [Act.put, List.setIfInBounds_toArray, List.set_cons_zero, List.set_cons_succ])
                refine wpAnyH_done (by kernel_rfl) ?_ _
                have HW1 := Lib.hid ((Below.refl wr.heap.size wr).drew.trans hbw1)
                have HOW := Lib.hid (ownsRow_below HO2.out HW1.out)
                have HBW := Lib.hid (HB2.out.trans (HW1.out.mono HB2.out.size))
                have HPL := Lib.hid (show pre.length ≤ 1000000 by omega)
                obtain ⟨i0, hi0', hz0, hz1, hz2⟩ := info_parts infoInt
                clear hbw1 k1 hbe
                go_wp2_with (at_builtin; refine wpList_app _ rfl _ _ 211 rfl w.heap.size 3 i0 (.int .i64 0) 1 8 ulInts hi0' hz0 hz1 hz2 rfl (by decide) _ _ _ rfl (HOW.out.alloc _) _ 1 (uCells .i64 [x]) rfl ?k0 (uCells_one _ _) ?k1 ?k2 ?k3 ?_)
                case k0 => exact isR_at rfl rfl
                case k1 => have := HPL.out; unfold maxLen; omega
                case k2 => have := HPL.out; omega
                case k3 => have := HBW.out.size; simp; omega
                intro out' w4 hown' _ hbel'
                have HO4 := Lib.hid hown'
                have HB4 := Lib.hid ((HBW.out.alloc HBW.out.size _).trans hbel')
                clear hown' hbel'
                go_wp2
                go_roundw
                case rel =>
                  refine ⟨i + 4, pre ++ [x], by (first | go_num | (congr 1; omega)), by omega, by simp; omega, ?_, ?_, HB4.out⟩
                  · exact pts_more HPT5.out
                  · rw [uCells_app, List.length_append]; exact HO4.out
                case measure => simp [intOf]; omega
              · have hpt := HPT4.out
                rw [if_neg he] at hpt
                have HPT5 := Lib.hid hpt
                have hne : ((bStr (octsR (x : Int))).toList == p.toList) = false := by
                  rw [ByteArray.toList_eq, ByteArray.toList_eq, HP1.out]
                  exact beq_eq_false_iff_ne.2 (fun h => he (by simpa [bStr] using h))
                have hne2 : ((bStr (octsR (x : Int))).toList != p.toList) = true := by rw [bne, hne]; rfl
                clear hpt he
                obtain ⟨S, hS⟩ : ∃ S, bStr (octsR (x : Int)) = S := ⟨_, rfl⟩
                rw [hS] at hne hne2
                have HS := Lib.hid hS
                clear hS
                go_wp2_with fail
                refine wp_region_held_drew (S := (fun _ : World => True)) (by kernel_rfl) trivial (fun hHeld => ?_)
                (refine take_want (i := 0) (d := some 72) ?_ (by kernel_rfl) (by kernel_rfl) (by kernel_rfl) (fun _ _ _ h => h) (by assumption) ?_ (by kernel_rfl) ?_; rotate_left; (· (intro o ho; simp only [List.getElem?_toArray, List.getElem?_cons_succ, List.getElem?_cons_zero, Option.some.injEq] at ho; subst ho; refine ⟨rfl, by rfl, fun w hSw => ?_⟩; (try dsimp only at hSw); go_simp; (first | done | with_reducible rfl))); simp only [Act.put, List.setIfInBounds_toArray, List.set_cons_zero, List.set_cons_succ])
                (refine take_want (i := 3) (d := some 75) ?_ (by kernel_rfl) (by kernel_rfl) (by kernel_rfl) (fun _ _ _ h => h) (by assumption) ?_ (by kernel_rfl) ?_; rotate_left; (· (intro o ho; simp only [List.getElem?_toArray, List.getElem?_cons_succ, List.getElem?_cons_zero, Option.some.injEq] at ho; subst ho; refine ⟨rfl, by rfl, fun w hSw => ?_⟩; (try dsimp only at hSw); go_simp; (first | done | with_reducible rfl))); simp only [Act.put, List.setIfInBounds_toArray, List.set_cons_zero, List.set_cons_succ])
                (refine take_want (i := 4) (d := some 76) ?_ (by kernel_rfl) (by kernel_rfl) (by kernel_rfl) (fun _ _ _ h => h) (by assumption) ?_ (by kernel_rfl) ?_; rotate_left; (· (intro o ho; simp only [List.getElem?_toArray, List.getElem?_cons_succ, List.getElem?_cons_zero, Option.some.injEq] at ho; subst ho; refine ⟨rfl, by rfl, fun w hSw => ?_⟩; (try dsimp only at hSw); go_simp; (first | done | with_reducible rfl))); simp only [Act.put, List.setIfInBounds_toArray, List.set_cons_zero, List.set_cons_succ])
                (refine take_want (i := 5) (d := some 77) ?_ (by kernel_rfl) (by kernel_rfl) (by kernel_rfl) (fun _ _ _ h => h) (by assumption) ?_ (by kernel_rfl) ?_; rotate_left; (· (intro o ho; simp only [List.getElem?_toArray, List.getElem?_cons_succ, List.getElem?_cons_zero, Option.some.injEq] at ho; subst ho; refine ⟨rfl, by rfl, fun w hSw => ?_⟩; (try dsimp only at hSw); go_simp; (first | done | with_reducible rfl))); simp only [Act.put, List.setIfInBounds_toArray, List.set_cons_zero, List.set_cons_succ])
                (refine take_want (i := 6) (d := some 78) ?_ (by kernel_rfl) (by kernel_rfl) (by kernel_rfl) (fun _ _ _ h => h) (by assumption) ?_ (by kernel_rfl) ?_; rotate_left; (· (intro o ho; simp only [List.getElem?_toArray, List.getElem?_cons_succ, List.getElem?_cons_zero, Option.some.injEq] at ho; subst ho; refine ⟨rfl, by rfl, fun w hSw => ?_⟩; (try dsimp only at hSw); go_simp; (first | done | with_reducible rfl))); simp only [Act.put, List.setIfInBounds_toArray, List.set_cons_zero, List.set_cons_succ])
                (refine take_want (i := 7) (d := some 79) ?_ (by kernel_rfl) (by kernel_rfl) (by kernel_rfl) (fun _ _ _ h => h) (by assumption) ?_ (by kernel_rfl) ?_; rotate_left; (· (intro o ho; simp only [List.getElem?_toArray, List.getElem?_cons_succ, List.getElem?_cons_zero, Option.some.injEq] at ho; subst ho; refine ⟨rfl, by rfl, fun w hSw => ?_⟩; (try dsimp only at hSw); go_simp; (first | done | with_reducible rfl))); simp only [Act.put, List.setIfInBounds_toArray, List.set_cons_zero, List.set_cons_succ])
                (refine take_want (i := 8) (d := some 80) ?_ (by kernel_rfl) (by kernel_rfl) (by kernel_rfl) (fun _ _ _ h => h) (by assumption) ?_ (by kernel_rfl) ?_; rotate_left; (· (intro o ho; simp only [List.getElem?_toArray, List.getElem?_cons_succ, List.getElem?_cons_zero, Option.some.injEq] at ho; subst ho; refine ⟨rfl, by rfl, fun w hSw => ?_⟩; (try dsimp only at hSw); go_simp; (first | done | with_reducible rfl))); simp only [Act.put, List.setIfInBounds_toArray, List.set_cons_zero, List.set_cons_succ])
                (refine take_want (i := 9) (d := some 81) ?_ (by kernel_rfl) (by kernel_rfl) (by kernel_rfl) (fun _ _ _ h => h) (by assumption) ?_ (by kernel_rfl) ?_; rotate_left; (· (intro o ho; simp only [List.getElem?_toArray, List.getElem?_cons_succ, List.getElem?_cons_zero, Option.some.injEq] at ho; subst ho; refine ⟨rfl, by rfl, fun w hSw => ?_⟩; (try dsimp only at hSw); go_simp; (first | done | with_reducible rfl))); simp only [Act.put, List.setIfInBounds_toArray, List.set_cons_zero, List.set_cons_succ])
                refine take_run (i := 1) (by kernel_rfl) (by kernel_rfl) ?_
                intro o ho K hK
                simp only [List.getElem?_toArray, List.getElem?_cons_succ, List.getElem?_cons_zero, Option.some.injEq] at ho
                subst ho
                go_simp
                go_at_call 192
                (with_reducible refine (HO3.out _).mono ?_)
                rintro e w1 ⟨v1, rfl, ho1, hbw1⟩
                obtain ⟨A1, c1, rfl⟩ := isB_slice ho1.isB
                have k1 := isB_bstr ho1.isB
                rw [HS.out] at k1
                clear ho1
                try (go_wp2_with fail)
                refine hK.out _ _ trivial (fun hHeld2 => ?_)
                clear hK K hHeld
                try simp only [Act.put, List.setIfInBounds_toArray, List.set_cons_zero, List.set_cons_succ]
                refine take_run (i := 2) (by kernel_rfl) (by kernel_rfl) ?_
                intro o ho K hK
                simp only [List.getElem?_toArray, List.getElem?_cons_succ, List.getElem?_cons_zero, Option.some.injEq] at ho
                subst ho
                go_simp
                refine hK.out _ _ trivial (fun hHeld3 => ?_)
                clear hK K hHeld2
                try simp only [Act.put, List.setIfInBounds_toArray, List.set_cons_zero, List.set_cons_succ]
                (refine take_want (i := 10) (d := some 82) ?_ (by kernel_rfl) (by kernel_rfl) (by kernel_rfl) (fun _ _ _ h => h) (by assumption) ?_ (by kernel_rfl) ?_; rotate_left; (· (intro o ho; simp only [List.getElem?_toArray, List.getElem?_cons_succ, List.getElem?_cons_zero, Option.some.injEq] at ho; subst ho; refine ⟨rfl, by rfl, fun w hSw => ?_⟩; (try dsimp only at hSw); go_simp; (first | done | with_reducible rfl))); simp only [Act.put, List.setIfInBounds_toArray, List.set_cons_zero, List.set_cons_succ])
                refine wpAnyH_done (by kernel_rfl) ?_ _
                have HW1 := Lib.hid ((Below.refl wr.heap.size wr).drew.trans hbw1)
                have HBW := Lib.hid (HB2.out.trans (HW1.out.mono HB2.out.size))
                clear hbw1 k1
                go_wp2_with fail
                go_ret2
                exact ⟨HBW.out, .inl ⟨HPT5.out.symm, rfl⟩⟩
      · have hld : leadR (l.getD i 0).toNat = some (2, (l.getD i 0).toNat - 224) := by
          unfold leadR
          rw [if_neg (by omega), if_pos (by omega)]
        have hpt := HPT2.out
        rw [hld] at hpt
        simp only at hpt
        obtain ⟨x0, hx0⟩ : ∃ x0, (l.getD i 0).toNat - 224 = x0 := ⟨_, rfl⟩
        rw [hx0] at hpt
        have hxv : bat l i - 224 = (x0 : Int) := by omega
        have hx128 : x0 < 128 := by omega
        have HX := Lib.hid hxv
        have HX8 := Lib.hid hx128
        by_cases hn : l.length ≤ i + 2
        · rw [if_pos hn] at hpt
          have HPT3 := Lib.hid hpt
          have hnI : (s.size : Int) ≤ (i : Int) + 2 := by omega
          clear hpt hld hbb hn hx0 hxv hx128
          generalize bat l i = b at *
          go_wp2_with fail
          go_ret2
          exact ⟨HB2.out, .inl ⟨HPT3.out.symm, rfl⟩⟩
        · rw [if_neg hn] at hpt
          have hnI : (i : Int) + 2 < s.size := by omega
          obtain ⟨q, hq⟩ : ∃ q, contR x0 ((l.drop (i + 1)).take 2) = q := ⟨_, rfl⟩
          rw [hq] at hpt
          have HPT3 := Lib.hid hpt
          have HQ := Lib.hid hq
          have HN := Lib.hid hn
          clear hpt hld hbb hn hx0 hq hxv hx128
          generalize bat l i = b at *
          go_wp2_with fail
          go_loop [6, 8] (fun xx kk => PiRel l i 2 q xx kk) (fun _ kk => 2 + 2 - (intOf kk).toNat)
          case atStart => exact ⟨1, x0, rfl, by rw [HX.out], by omega, by omega, by have := HX8.out; simpa using this, HQ.out⟩
          case round =>
            obtain ⟨k, x, rfl, rfl, hk1, hk2, hxb, hct⟩ := hrel
            have hp := p64 (k := k) (by omega)
            have HXB := Lib.hid hxb
            have hx3 : (x : Int) < 33554432 := by omega
            have hn2 := HN.out
            by_cases hkn : k ≤ 2
            · obtain ⟨m, hm⟩ : ∃ m, m = i + k := ⟨_, rfl⟩
              have hlt2 : m < s.size := by omega
              have hy := HB.out m hlt2
              have hy0 := bat_pos l m
              have hy1 := bat_lt l m
              have hmI : (i : Int) + (k : Int) = (m : Int) := by omega
              have hmS : (m : Int) < s.size := by omega
              have hd : (l.drop (i + k)).take (2 + 1 - k) = l[m]'(by omega) :: (l.drop (i + (k + 1))).take (2 + 1 - (k + 1)) := by
                subst hm
                rw [List.drop_eq_getElem_cons (show i + k < l.length by omega), show 2 + 1 - k = (2 + 1 - (k + 1)) + 1 by omega, List.take_succ_cons]
                rfl
              rw [hd] at hct
              simp only [contR] at hct
              have hyv : bat l m = ((l[m]'(by omega)).toNat : Int) := bat_eq l m (by omega)
              have hkI : (k : Int) ≤ 2 := by omega
              by_cases hbad : bat l m < 128 ∨ 192 ≤ bat l m
              · rw [if_pos (by omega)] at hct
                have hpt := HPT3.out
                rw [← hct] at hpt
                have HPT4 := Lib.hid hpt
                clear hpt hct hyv hd hm hn2 hxb hp
                generalize bat l m = y at *
                rcases hbad with hbad | hbad
                · go_wp2_with fail
                  go_ret2
                  exact ⟨HB2.out, .inl ⟨HPT4.out.symm, rfl⟩⟩
                · have h128 : 128 ≤ y := by omega
                  go_wp2_with fail
                  go_ret2
                  exact ⟨HB2.out, .inl ⟨HPT4.out.symm, rfl⟩⟩
              · rw [if_neg (by omega)] at hct
                have h128 : 128 ≤ bat l m := by omega
                have h192 : bat l m < 192 := by omega
                obtain ⟨x', hx'⟩ : ∃ x', x * 64 + (l[m]'(by omega)).toNat - 128 = x' := ⟨_, rfl⟩
                rw [hx'] at hct
                have hxI : (x' : Int) = (x : Int) * 64 + bat l m - 128 := by omega
                have hxb2 : x' < 128 * 64 ^ (k + 1 - 1) := by
                  have e : (64 : Nat) ^ (k + 1 - 1) = 64 * 64 ^ (k - 1) := by
                    rw [show k + 1 - 1 = (k - 1) + 1 by omega, Nat.pow_succ, Nat.mul_comm]
                  rw [e]
                  generalize (64 : Nat) ^ (k - 1) = P at *
                  omega
                have HX' := Lib.hid hxI
                have HXB2 := Lib.hid hxb2
                have HCT := Lib.hid hct
                have d1 : decide (bat l m < 128) = false := decide_eq_false (by omega)
                have d2 : decide (192 ≤ bat l m) = false := decide_eq_false (by omega)
                clear hct hyv hd hm hn2 hxb hp hbad hx' hxI hxb2 h128 h192
                generalize bat l m = y at *
                go_wp2_with fail
                go_round
                case rel => exact ⟨k + 1, x', by go_num, by rw [HX'.out], by omega, by omega, HXB2.out, HCT.out⟩
                case measure => simp [intOf]; omega
            · have hke : k = 2 + 1 := by omega
              subst hke
              have hq2 : q = some x := by rw [← hct]; simp [contR]
              have hpt := HPT3.out
              rw [hq2] at hpt
              simp only at hpt
              obtain ⟨p, hp1, hp2⟩ := HC.out i 2 ((i : Int) + 2 + 1) (by omega) (by omega)
              have HO3 := Lib.hid (fun W => HO.out x W (by omega))
              have HPT4 := Lib.hid hpt
              have HP1 := Lib.hid hp1
              have hw1 : IntKind.i64.wrap ((i : Int) + 2) = (i : Int) + 2 := by rw [IntKind.wrap_i64]; omega
              have hw2 : IntKind.i64.wrap ((i : Int) + 2 + 1) = (i : Int) + 2 + 1 := by rw [IntKind.wrap_i64]; omega
              clear hpt hct hq2 hxb hn2 hp hp1 hkn
              by_cases he : octsR (x : Int) = (l.drop i).take (2 + 1)
              · have hpt := HPT4.out
                rw [if_pos he] at hpt
                simp only [List.drop_drop] at hpt
                have HPT5 := Lib.hid hpt
                have hps : bStr (octsR (x : Int)) = p := by
                  rw [he, ← HP1.out, bStr_eq]
                have HPS := Lib.hid hps
                have hbe : (p.toList == p.toList) = true := by simp
                clear hpt he hps
                go_wp2_with fail
                refine wp_region_held_drew (S := (fun _ : World => True)) (by kernel_rfl) trivial (fun hHeld => ?_)
                (refine take_want (i := 0) (d := some 72) ?_ (by kernel_rfl) (by kernel_rfl) (by kernel_rfl) (fun _ _ _ h => h) (by assumption) ?_ (by kernel_rfl) ?_; rotate_left; (· (intro o ho; simp only [List.getElem?_toArray, List.getElem?_cons_succ, List.getElem?_cons_zero, Option.some.injEq] at ho; subst ho; refine ⟨rfl, by rfl, fun w hSw => ?_⟩; (try dsimp only at hSw); go_simp; (first | done | with_reducible rfl))); simp only [Act.put, List.setIfInBounds_toArray, List.set_cons_zero, List.set_cons_succ])
                (refine take_want (i := 3) (d := some 75) ?_ (by kernel_rfl) (by kernel_rfl) (by kernel_rfl) (fun _ _ _ h => h) (by assumption) ?_ (by kernel_rfl) ?_; rotate_left; (· (intro o ho; simp only [List.getElem?_toArray, List.getElem?_cons_succ, List.getElem?_cons_zero, Option.some.injEq] at ho; subst ho; refine ⟨rfl, by rfl, fun w hSw => ?_⟩; (try dsimp only at hSw); go_simp; (first | done | with_reducible rfl))); simp only [Act.put, List.setIfInBounds_toArray, List.set_cons_zero, List.set_cons_succ])
                (refine take_want (i := 4) (d := some 76) ?_ (by kernel_rfl) (by kernel_rfl) (by kernel_rfl) (fun _ _ _ h => h) (by assumption) ?_ (by kernel_rfl) ?_; rotate_left; (· (intro o ho; simp only [List.getElem?_toArray, List.getElem?_cons_succ, List.getElem?_cons_zero, Option.some.injEq] at ho; subst ho; refine ⟨rfl, by rfl, fun w hSw => ?_⟩; (try dsimp only at hSw); go_simp; (first | done | with_reducible rfl))); simp only [Act.put, List.setIfInBounds_toArray, List.set_cons_zero, List.set_cons_succ])
                (refine take_want (i := 5) (d := some 77) ?_ (by kernel_rfl) (by kernel_rfl) (by kernel_rfl) (fun _ _ _ h => h) (by assumption) ?_ (by kernel_rfl) ?_; rotate_left; (· (intro o ho; simp only [List.getElem?_toArray, List.getElem?_cons_succ, List.getElem?_cons_zero, Option.some.injEq] at ho; subst ho; refine ⟨rfl, by rfl, fun w hSw => ?_⟩; (try dsimp only at hSw); go_simp; (first | done | with_reducible rfl))); simp only [Act.put, List.setIfInBounds_toArray, List.set_cons_zero, List.set_cons_succ])
                (refine take_want (i := 6) (d := some 78) ?_ (by kernel_rfl) (by kernel_rfl) (by kernel_rfl) (fun _ _ _ h => h) (by assumption) ?_ (by kernel_rfl) ?_; rotate_left; (· (intro o ho; simp only [List.getElem?_toArray, List.getElem?_cons_succ, List.getElem?_cons_zero, Option.some.injEq] at ho; subst ho; refine ⟨rfl, by rfl, fun w hSw => ?_⟩; (try dsimp only at hSw); go_simp; (first | done | with_reducible rfl))); simp only [Act.put, List.setIfInBounds_toArray, List.set_cons_zero, List.set_cons_succ])
                (refine take_want (i := 7) (d := some 79) ?_ (by kernel_rfl) (by kernel_rfl) (by kernel_rfl) (fun _ _ _ h => h) (by assumption) ?_ (by kernel_rfl) ?_; rotate_left; (· (intro o ho; simp only [List.getElem?_toArray, List.getElem?_cons_succ, List.getElem?_cons_zero, Option.some.injEq] at ho; subst ho; refine ⟨rfl, by rfl, fun w hSw => ?_⟩; (try dsimp only at hSw); go_simp; (first | done | with_reducible rfl))); simp only [Act.put, List.setIfInBounds_toArray, List.set_cons_zero, List.set_cons_succ])
                (refine take_want (i := 8) (d := some 80) ?_ (by kernel_rfl) (by kernel_rfl) (by kernel_rfl) (fun _ _ _ h => h) (by assumption) ?_ (by kernel_rfl) ?_; rotate_left; (· (intro o ho; simp only [List.getElem?_toArray, List.getElem?_cons_succ, List.getElem?_cons_zero, Option.some.injEq] at ho; subst ho; refine ⟨rfl, by rfl, fun w hSw => ?_⟩; (try dsimp only at hSw); go_simp; (first | done | with_reducible rfl))); simp only [Act.put, List.setIfInBounds_toArray, List.set_cons_zero, List.set_cons_succ])
                (refine take_want (i := 9) (d := some 81) ?_ (by kernel_rfl) (by kernel_rfl) (by kernel_rfl) (fun _ _ _ h => h) (by assumption) ?_ (by kernel_rfl) ?_; rotate_left; (· (intro o ho; simp only [List.getElem?_toArray, List.getElem?_cons_succ, List.getElem?_cons_zero, Option.some.injEq] at ho; subst ho; refine ⟨rfl, by rfl, fun w hSw => ?_⟩; (try dsimp only at hSw); go_simp; (first | done | with_reducible rfl))); simp only [Act.put, List.setIfInBounds_toArray, List.set_cons_zero, List.set_cons_succ])
                refine take_run (i := 1) (by kernel_rfl) (by kernel_rfl) ?_
                intro o ho K hK
                simp only [List.getElem?_toArray, List.getElem?_cons_succ, List.getElem?_cons_zero, Option.some.injEq] at ho
                subst ho
                go_simp
                go_at_call 192
                (with_reducible refine (HO3.out _).mono ?_)
                rintro e w1 ⟨v1, rfl, ho1, hbw1⟩
                obtain ⟨A1, c1, rfl⟩ := isB_slice ho1.isB
                have k1 := isB_bstr ho1.isB
                rw [HPS.out] at k1
                clear ho1
                try (go_wp2_with fail)
                refine hK.out _ _ trivial (fun hHeld2 => ?_)
                clear hK K hHeld
                try simp only [Act.put, List.setIfInBounds_toArray, List.set_cons_zero, List.set_cons_succ]
                refine take_run (i := 2) (by kernel_rfl) (by kernel_rfl) ?_
                intro o ho K hK
                simp only [List.getElem?_toArray, List.getElem?_cons_succ, List.getElem?_cons_zero, Option.some.injEq] at ho
                subst ho
                go_simp
                refine hK.out _ _ trivial (fun hHeld3 => ?_)
                clear hK K hHeld2
                try simp only [Act.put, List.setIfInBounds_toArray, List.set_cons_zero, List.set_cons_succ]
                (refine take_want (i := 10) (d := some 82) ?_ (by kernel_rfl) (by kernel_rfl) (by kernel_rfl) (fun _ _ _ h => h) (by assumption) ?_ (by kernel_rfl) ?_; rotate_left; (· (intro o ho; simp only [List.getElem?_toArray, List.getElem?_cons_succ, List.getElem?_cons_zero, Option.some.injEq] at ho; subst ho; refine ⟨rfl, by rfl, fun w hSw => ?_⟩; (try dsimp only at hSw); go_simp; (first | done | with_reducible rfl))); simp only [Act.put, List.setIfInBounds_toArray, List.set_cons_zero, List.set_cons_succ])
                refine wpAnyH_done (by kernel_rfl) ?_ _
                have HW1 := Lib.hid ((Below.refl wr.heap.size wr).drew.trans hbw1)
                have HOW := Lib.hid (ownsRow_below HO2.out HW1.out)
                have HBW := Lib.hid (HB2.out.trans (HW1.out.mono HB2.out.size))
                have HPL := Lib.hid (show pre.length ≤ 1000000 by omega)
                obtain ⟨i0, hi0', hz0, hz1, hz2⟩ := info_parts infoInt
                clear hbw1 k1 hbe
                go_wp2_with (at_builtin; refine wpList_app _ rfl _ _ 211 rfl w.heap.size 3 i0 (.int .i64 0) 1 8 ulInts hi0' hz0 hz1 hz2 rfl (by decide) _ _ _ rfl (HOW.out.alloc _) _ 1 (uCells .i64 [x]) rfl ?k0 (uCells_one _ _) ?k1 ?k2 ?k3 ?_)
                case k0 => exact isR_at rfl rfl
                case k1 => have := HPL.out; unfold maxLen; omega
                case k2 => have := HPL.out; omega
                case k3 => have := HBW.out.size; simp; omega
                intro out' w4 hown' _ hbel'
                have HO4 := Lib.hid hown'
                have HB4 := Lib.hid ((HBW.out.alloc HBW.out.size _).trans hbel')
                clear hown' hbel'
                go_wp2
                go_roundw
                case rel =>
                  refine ⟨i + 3, pre ++ [x], by (first | go_num | (congr 1; omega)), by omega, by simp; omega, ?_, ?_, HB4.out⟩
                  · exact pts_more HPT5.out
                  · rw [uCells_app, List.length_append]; exact HO4.out
                case measure => simp [intOf]; omega
              · have hpt := HPT4.out
                rw [if_neg he] at hpt
                have HPT5 := Lib.hid hpt
                have hne : ((bStr (octsR (x : Int))).toList == p.toList) = false := by
                  rw [ByteArray.toList_eq, ByteArray.toList_eq, HP1.out]
                  exact beq_eq_false_iff_ne.2 (fun h => he (by simpa [bStr] using h))
                have hne2 : ((bStr (octsR (x : Int))).toList != p.toList) = true := by rw [bne, hne]; rfl
                clear hpt he
                obtain ⟨S, hS⟩ : ∃ S, bStr (octsR (x : Int)) = S := ⟨_, rfl⟩
                rw [hS] at hne hne2
                have HS := Lib.hid hS
                clear hS
                go_wp2_with fail
                refine wp_region_held_drew (S := (fun _ : World => True)) (by kernel_rfl) trivial (fun hHeld => ?_)
                (refine take_want (i := 0) (d := some 72) ?_ (by kernel_rfl) (by kernel_rfl) (by kernel_rfl) (fun _ _ _ h => h) (by assumption) ?_ (by kernel_rfl) ?_; rotate_left; (· (intro o ho; simp only [List.getElem?_toArray, List.getElem?_cons_succ, List.getElem?_cons_zero, Option.some.injEq] at ho; subst ho; refine ⟨rfl, by rfl, fun w hSw => ?_⟩; (try dsimp only at hSw); go_simp; (first | done | with_reducible rfl))); simp only [Act.put, List.setIfInBounds_toArray, List.set_cons_zero, List.set_cons_succ])
                (refine take_want (i := 3) (d := some 75) ?_ (by kernel_rfl) (by kernel_rfl) (by kernel_rfl) (fun _ _ _ h => h) (by assumption) ?_ (by kernel_rfl) ?_; rotate_left; (· (intro o ho; simp only [List.getElem?_toArray, List.getElem?_cons_succ, List.getElem?_cons_zero, Option.some.injEq] at ho; subst ho; refine ⟨rfl, by rfl, fun w hSw => ?_⟩; (try dsimp only at hSw); go_simp; (first | done | with_reducible rfl))); simp only [Act.put, List.setIfInBounds_toArray, List.set_cons_zero, List.set_cons_succ])
                (refine take_want (i := 4) (d := some 76) ?_ (by kernel_rfl) (by kernel_rfl) (by kernel_rfl) (fun _ _ _ h => h) (by assumption) ?_ (by kernel_rfl) ?_; rotate_left; (· (intro o ho; simp only [List.getElem?_toArray, List.getElem?_cons_succ, List.getElem?_cons_zero, Option.some.injEq] at ho; subst ho; refine ⟨rfl, by rfl, fun w hSw => ?_⟩; (try dsimp only at hSw); go_simp; (first | done | with_reducible rfl))); simp only [Act.put, List.setIfInBounds_toArray, List.set_cons_zero, List.set_cons_succ])
                (refine take_want (i := 5) (d := some 77) ?_ (by kernel_rfl) (by kernel_rfl) (by kernel_rfl) (fun _ _ _ h => h) (by assumption) ?_ (by kernel_rfl) ?_; rotate_left; (· (intro o ho; simp only [List.getElem?_toArray, List.getElem?_cons_succ, List.getElem?_cons_zero, Option.some.injEq] at ho; subst ho; refine ⟨rfl, by rfl, fun w hSw => ?_⟩; (try dsimp only at hSw); go_simp; (first | done | with_reducible rfl))); simp only [Act.put, List.setIfInBounds_toArray, List.set_cons_zero, List.set_cons_succ])
                (refine take_want (i := 6) (d := some 78) ?_ (by kernel_rfl) (by kernel_rfl) (by kernel_rfl) (fun _ _ _ h => h) (by assumption) ?_ (by kernel_rfl) ?_; rotate_left; (· (intro o ho; simp only [List.getElem?_toArray, List.getElem?_cons_succ, List.getElem?_cons_zero, Option.some.injEq] at ho; subst ho; refine ⟨rfl, by rfl, fun w hSw => ?_⟩; (try dsimp only at hSw); go_simp; (first | done | with_reducible rfl))); simp only [Act.put, List.setIfInBounds_toArray, List.set_cons_zero, List.set_cons_succ])
                (refine take_want (i := 7) (d := some 79) ?_ (by kernel_rfl) (by kernel_rfl) (by kernel_rfl) (fun _ _ _ h => h) (by assumption) ?_ (by kernel_rfl) ?_; rotate_left; (· (intro o ho; simp only [List.getElem?_toArray, List.getElem?_cons_succ, List.getElem?_cons_zero, Option.some.injEq] at ho; subst ho; refine ⟨rfl, by rfl, fun w hSw => ?_⟩; (try dsimp only at hSw); go_simp; (first | done | with_reducible rfl))); simp only [Act.put, List.setIfInBounds_toArray, List.set_cons_zero, List.set_cons_succ])
                (refine take_want (i := 8) (d := some 80) ?_ (by kernel_rfl) (by kernel_rfl) (by kernel_rfl) (fun _ _ _ h => h) (by assumption) ?_ (by kernel_rfl) ?_; rotate_left; (· (intro o ho; simp only [List.getElem?_toArray, List.getElem?_cons_succ, List.getElem?_cons_zero, Option.some.injEq] at ho; subst ho; refine ⟨rfl, by rfl, fun w hSw => ?_⟩; (try dsimp only at hSw); go_simp; (first | done | with_reducible rfl))); simp only [Act.put, List.setIfInBounds_toArray, List.set_cons_zero, List.set_cons_succ])
                (refine take_want (i := 9) (d := some 81) ?_ (by kernel_rfl) (by kernel_rfl) (by kernel_rfl) (fun _ _ _ h => h) (by assumption) ?_ (by kernel_rfl) ?_; rotate_left; (· (intro o ho; simp only [List.getElem?_toArray, List.getElem?_cons_succ, List.getElem?_cons_zero, Option.some.injEq] at ho; subst ho; refine ⟨rfl, by rfl, fun w hSw => ?_⟩; (try dsimp only at hSw); go_simp; (first | done | with_reducible rfl))); simp only [Act.put, List.setIfInBounds_toArray, List.set_cons_zero, List.set_cons_succ])
                refine take_run (i := 1) (by kernel_rfl) (by kernel_rfl) ?_
                intro o ho K hK
                simp only [List.getElem?_toArray, List.getElem?_cons_succ, List.getElem?_cons_zero, Option.some.injEq] at ho
                subst ho
                go_simp
                go_at_call 192
                (with_reducible refine (HO3.out _).mono ?_)
                rintro e w1 ⟨v1, rfl, ho1, hbw1⟩
                obtain ⟨A1, c1, rfl⟩ := isB_slice ho1.isB
                have k1 := isB_bstr ho1.isB
                rw [HS.out] at k1
                clear ho1
                try (go_wp2_with fail)
                refine hK.out _ _ trivial (fun hHeld2 => ?_)
                clear hK K hHeld
                try simp only [Act.put, List.setIfInBounds_toArray, List.set_cons_zero, List.set_cons_succ]
                refine take_run (i := 2) (by kernel_rfl) (by kernel_rfl) ?_
                intro o ho K hK
                simp only [List.getElem?_toArray, List.getElem?_cons_succ, List.getElem?_cons_zero, Option.some.injEq] at ho
                subst ho
                go_simp
                refine hK.out _ _ trivial (fun hHeld3 => ?_)
                clear hK K hHeld2
                try simp only [Act.put, List.setIfInBounds_toArray, List.set_cons_zero, List.set_cons_succ]
                (refine take_want (i := 10) (d := some 82) ?_ (by kernel_rfl) (by kernel_rfl) (by kernel_rfl) (fun _ _ _ h => h) (by assumption) ?_ (by kernel_rfl) ?_; rotate_left; (· (intro o ho; simp only [List.getElem?_toArray, List.getElem?_cons_succ, List.getElem?_cons_zero, Option.some.injEq] at ho; subst ho; refine ⟨rfl, by rfl, fun w hSw => ?_⟩; (try dsimp only at hSw); go_simp; (first | done | with_reducible rfl))); simp only [Act.put, List.setIfInBounds_toArray, List.set_cons_zero, List.set_cons_succ])
                refine wpAnyH_done (by kernel_rfl) ?_ _
                have HW1 := Lib.hid ((Below.refl wr.heap.size wr).drew.trans hbw1)
                have HBW := Lib.hid (HB2.out.trans (HW1.out.mono HB2.out.size))
                clear hbw1 k1
                go_wp2_with fail
                go_ret2
                exact ⟨HBW.out, .inl ⟨HPT5.out.symm, rfl⟩⟩
      · have hld : leadR (l.getD i 0).toNat = some (1, (l.getD i 0).toNat - 192) := by
          unfold leadR
          rw [if_neg (by omega), if_neg (by omega), if_pos (by omega)]
        have hpt := HPT2.out
        rw [hld] at hpt
        simp only at hpt
        obtain ⟨x0, hx0⟩ : ∃ x0, (l.getD i 0).toNat - 192 = x0 := ⟨_, rfl⟩
        rw [hx0] at hpt
        have hxv : bat l i - 192 = (x0 : Int) := by omega
        have hx128 : x0 < 128 := by omega
        have HX := Lib.hid hxv
        have HX8 := Lib.hid hx128
        by_cases hn : l.length ≤ i + 1
        · rw [if_pos hn] at hpt
          have HPT3 := Lib.hid hpt
          have hnI : (s.size : Int) ≤ (i : Int) + 1 := by omega
          clear hpt hld hbb hn hx0 hxv hx128
          generalize bat l i = b at *
          go_wp2_with fail
          go_ret2
          exact ⟨HB2.out, .inl ⟨HPT3.out.symm, rfl⟩⟩
        · rw [if_neg hn] at hpt
          have hnI : (i : Int) + 1 < s.size := by omega
          obtain ⟨q, hq⟩ : ∃ q, contR x0 ((l.drop (i + 1)).take 1) = q := ⟨_, rfl⟩
          rw [hq] at hpt
          have HPT3 := Lib.hid hpt
          have HQ := Lib.hid hq
          have HN := Lib.hid hn
          clear hpt hld hbb hn hx0 hq hxv hx128
          generalize bat l i = b at *
          go_wp2_with fail
          go_loop [6, 8] (fun xx kk => PiRel l i 1 q xx kk) (fun _ kk => 1 + 2 - (intOf kk).toNat)
          case atStart => exact ⟨1, x0, rfl, by rw [HX.out], by omega, by omega, by have := HX8.out; simpa using this, HQ.out⟩
          case round =>
            obtain ⟨k, x, rfl, rfl, hk1, hk2, hxb, hct⟩ := hrel
            have hp := p64 (k := k) (by omega)
            have HXB := Lib.hid hxb
            have hx3 : (x : Int) < 33554432 := by omega
            have hn2 := HN.out
            by_cases hkn : k ≤ 1
            · obtain ⟨m, hm⟩ : ∃ m, m = i + k := ⟨_, rfl⟩
              have hlt2 : m < s.size := by omega
              have hy := HB.out m hlt2
              have hy0 := bat_pos l m
              have hy1 := bat_lt l m
              have hmI : (i : Int) + (k : Int) = (m : Int) := by omega
              have hmS : (m : Int) < s.size := by omega
              have hd : (l.drop (i + k)).take (1 + 1 - k) = l[m]'(by omega) :: (l.drop (i + (k + 1))).take (1 + 1 - (k + 1)) := by
                subst hm
                rw [List.drop_eq_getElem_cons (show i + k < l.length by omega), show 1 + 1 - k = (1 + 1 - (k + 1)) + 1 by omega, List.take_succ_cons]
                rfl
              rw [hd] at hct
              simp only [contR] at hct
              have hyv : bat l m = ((l[m]'(by omega)).toNat : Int) := bat_eq l m (by omega)
              have hkI : (k : Int) ≤ 1 := by omega
              by_cases hbad : bat l m < 128 ∨ 192 ≤ bat l m
              · rw [if_pos (by omega)] at hct
                have hpt := HPT3.out
                rw [← hct] at hpt
                have HPT4 := Lib.hid hpt
                clear hpt hct hyv hd hm hn2 hxb hp
                generalize bat l m = y at *
                rcases hbad with hbad | hbad
                · go_wp2_with fail
                  go_ret2
                  exact ⟨HB2.out, .inl ⟨HPT4.out.symm, rfl⟩⟩
                · have h128 : 128 ≤ y := by omega
                  go_wp2_with fail
                  go_ret2
                  exact ⟨HB2.out, .inl ⟨HPT4.out.symm, rfl⟩⟩
              · rw [if_neg (by omega)] at hct
                have h128 : 128 ≤ bat l m := by omega
                have h192 : bat l m < 192 := by omega
                obtain ⟨x', hx'⟩ : ∃ x', x * 64 + (l[m]'(by omega)).toNat - 128 = x' := ⟨_, rfl⟩
                rw [hx'] at hct
                have hxI : (x' : Int) = (x : Int) * 64 + bat l m - 128 := by omega
                have hxb2 : x' < 128 * 64 ^ (k + 1 - 1) := by
                  have e : (64 : Nat) ^ (k + 1 - 1) = 64 * 64 ^ (k - 1) := by
                    rw [show k + 1 - 1 = (k - 1) + 1 by omega, Nat.pow_succ, Nat.mul_comm]
                  rw [e]
                  generalize (64 : Nat) ^ (k - 1) = P at *
                  omega
                have HX' := Lib.hid hxI
                have HXB2 := Lib.hid hxb2
                have HCT := Lib.hid hct
                have d1 : decide (bat l m < 128) = false := decide_eq_false (by omega)
                have d2 : decide (192 ≤ bat l m) = false := decide_eq_false (by omega)
                clear hct hyv hd hm hn2 hxb hp hbad hx' hxI hxb2 h128 h192
                generalize bat l m = y at *
                go_wp2_with fail
                go_round
                case rel => exact ⟨k + 1, x', by go_num, by rw [HX'.out], by omega, by omega, HXB2.out, HCT.out⟩
                case measure => simp [intOf]; omega
            · have hke : k = 1 + 1 := by omega
              subst hke
              have hq2 : q = some x := by rw [← hct]; simp [contR]
              have hpt := HPT3.out
              rw [hq2] at hpt
              simp only at hpt
              obtain ⟨p, hp1, hp2⟩ := HC.out i 1 ((i : Int) + 1 + 1) (by omega) (by omega)
              have HO3 := Lib.hid (fun W => HO.out x W (by omega))
              have HPT4 := Lib.hid hpt
              have HP1 := Lib.hid hp1
              have hw1 : IntKind.i64.wrap ((i : Int) + 1) = (i : Int) + 1 := by rw [IntKind.wrap_i64]; omega
              have hw2 : IntKind.i64.wrap ((i : Int) + 1 + 1) = (i : Int) + 1 + 1 := by rw [IntKind.wrap_i64]; omega
              clear hpt hct hq2 hxb hn2 hp hp1 hkn
              by_cases he : octsR (x : Int) = (l.drop i).take (1 + 1)
              · have hpt := HPT4.out
                rw [if_pos he] at hpt
                simp only [List.drop_drop] at hpt
                have HPT5 := Lib.hid hpt
                have hps : bStr (octsR (x : Int)) = p := by
                  rw [he, ← HP1.out, bStr_eq]
                have HPS := Lib.hid hps
                have hbe : (p.toList == p.toList) = true := by simp
                clear hpt he hps
                go_wp2_with fail
                refine wp_region_held_drew (S := (fun _ : World => True)) (by kernel_rfl) trivial (fun hHeld => ?_)
                (refine take_want (i := 0) (d := some 72) ?_ (by kernel_rfl) (by kernel_rfl) (by kernel_rfl) (fun _ _ _ h => h) (by assumption) ?_ (by kernel_rfl) ?_; rotate_left; (· (intro o ho; simp only [List.getElem?_toArray, List.getElem?_cons_succ, List.getElem?_cons_zero, Option.some.injEq] at ho; subst ho; refine ⟨rfl, by rfl, fun w hSw => ?_⟩; (try dsimp only at hSw); go_simp; (first | done | with_reducible rfl))); simp only [Act.put, List.setIfInBounds_toArray, List.set_cons_zero, List.set_cons_succ])
                (refine take_want (i := 3) (d := some 75) ?_ (by kernel_rfl) (by kernel_rfl) (by kernel_rfl) (fun _ _ _ h => h) (by assumption) ?_ (by kernel_rfl) ?_; rotate_left; (· (intro o ho; simp only [List.getElem?_toArray, List.getElem?_cons_succ, List.getElem?_cons_zero, Option.some.injEq] at ho; subst ho; refine ⟨rfl, by rfl, fun w hSw => ?_⟩; (try dsimp only at hSw); go_simp; (first | done | with_reducible rfl))); simp only [Act.put, List.setIfInBounds_toArray, List.set_cons_zero, List.set_cons_succ])
                (refine take_want (i := 4) (d := some 76) ?_ (by kernel_rfl) (by kernel_rfl) (by kernel_rfl) (fun _ _ _ h => h) (by assumption) ?_ (by kernel_rfl) ?_; rotate_left; (· (intro o ho; simp only [List.getElem?_toArray, List.getElem?_cons_succ, List.getElem?_cons_zero, Option.some.injEq] at ho; subst ho; refine ⟨rfl, by rfl, fun w hSw => ?_⟩; (try dsimp only at hSw); go_simp; (first | done | with_reducible rfl))); simp only [Act.put, List.setIfInBounds_toArray, List.set_cons_zero, List.set_cons_succ])
                (refine take_want (i := 5) (d := some 77) ?_ (by kernel_rfl) (by kernel_rfl) (by kernel_rfl) (fun _ _ _ h => h) (by assumption) ?_ (by kernel_rfl) ?_; rotate_left; (· (intro o ho; simp only [List.getElem?_toArray, List.getElem?_cons_succ, List.getElem?_cons_zero, Option.some.injEq] at ho; subst ho; refine ⟨rfl, by rfl, fun w hSw => ?_⟩; (try dsimp only at hSw); go_simp; (first | done | with_reducible rfl))); simp only [Act.put, List.setIfInBounds_toArray, List.set_cons_zero, List.set_cons_succ])
                (refine take_want (i := 6) (d := some 78) ?_ (by kernel_rfl) (by kernel_rfl) (by kernel_rfl) (fun _ _ _ h => h) (by assumption) ?_ (by kernel_rfl) ?_; rotate_left; (· (intro o ho; simp only [List.getElem?_toArray, List.getElem?_cons_succ, List.getElem?_cons_zero, Option.some.injEq] at ho; subst ho; refine ⟨rfl, by rfl, fun w hSw => ?_⟩; (try dsimp only at hSw); go_simp; (first | done | with_reducible rfl))); simp only [Act.put, List.setIfInBounds_toArray, List.set_cons_zero, List.set_cons_succ])
                (refine take_want (i := 7) (d := some 79) ?_ (by kernel_rfl) (by kernel_rfl) (by kernel_rfl) (fun _ _ _ h => h) (by assumption) ?_ (by kernel_rfl) ?_; rotate_left; (· (intro o ho; simp only [List.getElem?_toArray, List.getElem?_cons_succ, List.getElem?_cons_zero, Option.some.injEq] at ho; subst ho; refine ⟨rfl, by rfl, fun w hSw => ?_⟩; (try dsimp only at hSw); go_simp; (first | done | with_reducible rfl))); simp only [Act.put, List.setIfInBounds_toArray, List.set_cons_zero, List.set_cons_succ])
                (refine take_want (i := 8) (d := some 80) ?_ (by kernel_rfl) (by kernel_rfl) (by kernel_rfl) (fun _ _ _ h => h) (by assumption) ?_ (by kernel_rfl) ?_; rotate_left; (· (intro o ho; simp only [List.getElem?_toArray, List.getElem?_cons_succ, List.getElem?_cons_zero, Option.some.injEq] at ho; subst ho; refine ⟨rfl, by rfl, fun w hSw => ?_⟩; (try dsimp only at hSw); go_simp; (first | done | with_reducible rfl))); simp only [Act.put, List.setIfInBounds_toArray, List.set_cons_zero, List.set_cons_succ])
                (refine take_want (i := 9) (d := some 81) ?_ (by kernel_rfl) (by kernel_rfl) (by kernel_rfl) (fun _ _ _ h => h) (by assumption) ?_ (by kernel_rfl) ?_; rotate_left; (· (intro o ho; simp only [List.getElem?_toArray, List.getElem?_cons_succ, List.getElem?_cons_zero, Option.some.injEq] at ho; subst ho; refine ⟨rfl, by rfl, fun w hSw => ?_⟩; (try dsimp only at hSw); go_simp; (first | done | with_reducible rfl))); simp only [Act.put, List.setIfInBounds_toArray, List.set_cons_zero, List.set_cons_succ])
                refine take_run (i := 1) (by kernel_rfl) (by kernel_rfl) ?_
                intro o ho K hK
                simp only [List.getElem?_toArray, List.getElem?_cons_succ, List.getElem?_cons_zero, Option.some.injEq] at ho
                subst ho
                go_simp
                go_at_call 192
                (with_reducible refine (HO3.out _).mono ?_)
                rintro e w1 ⟨v1, rfl, ho1, hbw1⟩
                obtain ⟨A1, c1, rfl⟩ := isB_slice ho1.isB
                have k1 := isB_bstr ho1.isB
                rw [HPS.out] at k1
                clear ho1
                try (go_wp2_with fail)
                refine hK.out _ _ trivial (fun hHeld2 => ?_)
                clear hK K hHeld
                try simp only [Act.put, List.setIfInBounds_toArray, List.set_cons_zero, List.set_cons_succ]
                refine take_run (i := 2) (by kernel_rfl) (by kernel_rfl) ?_
                intro o ho K hK
                simp only [List.getElem?_toArray, List.getElem?_cons_succ, List.getElem?_cons_zero, Option.some.injEq] at ho
                subst ho
                go_simp
                refine hK.out _ _ trivial (fun hHeld3 => ?_)
                clear hK K hHeld2
                try simp only [Act.put, List.setIfInBounds_toArray, List.set_cons_zero, List.set_cons_succ]
                (refine take_want (i := 10) (d := some 82) ?_ (by kernel_rfl) (by kernel_rfl) (by kernel_rfl) (fun _ _ _ h => h) (by assumption) ?_ (by kernel_rfl) ?_; rotate_left; (· (intro o ho; simp only [List.getElem?_toArray, List.getElem?_cons_succ, List.getElem?_cons_zero, Option.some.injEq] at ho; subst ho; refine ⟨rfl, by rfl, fun w hSw => ?_⟩; (try dsimp only at hSw); go_simp; (first | done | with_reducible rfl))); simp only [Act.put, List.setIfInBounds_toArray, List.set_cons_zero, List.set_cons_succ])
                refine wpAnyH_done (by kernel_rfl) ?_ _
                have HW1 := Lib.hid ((Below.refl wr.heap.size wr).drew.trans hbw1)
                have HOW := Lib.hid (ownsRow_below HO2.out HW1.out)
                have HBW := Lib.hid (HB2.out.trans (HW1.out.mono HB2.out.size))
                have HPL := Lib.hid (show pre.length ≤ 1000000 by omega)
                obtain ⟨i0, hi0', hz0, hz1, hz2⟩ := info_parts infoInt
                clear hbw1 k1 hbe
                go_wp2_with (at_builtin; refine wpList_app _ rfl _ _ 211 rfl w.heap.size 3 i0 (.int .i64 0) 1 8 ulInts hi0' hz0 hz1 hz2 rfl (by decide) _ _ _ rfl (HOW.out.alloc _) _ 1 (uCells .i64 [x]) rfl ?k0 (uCells_one _ _) ?k1 ?k2 ?k3 ?_)
                case k0 => exact isR_at rfl rfl
                case k1 => have := HPL.out; unfold maxLen; omega
                case k2 => have := HPL.out; omega
                case k3 => have := HBW.out.size; simp; omega
                intro out' w4 hown' _ hbel'
                have HO4 := Lib.hid hown'
                have HB4 := Lib.hid ((HBW.out.alloc HBW.out.size _).trans hbel')
                clear hown' hbel'
                go_wp2
                go_roundw
                case rel =>
                  refine ⟨i + 2, pre ++ [x], by (first | go_num | (congr 1; omega)), by omega, by simp; omega, ?_, ?_, HB4.out⟩
                  · exact pts_more HPT5.out
                  · rw [uCells_app, List.length_append]; exact HO4.out
                case measure => simp [intOf]; omega
              · have hpt := HPT4.out
                rw [if_neg he] at hpt
                have HPT5 := Lib.hid hpt
                have hne : ((bStr (octsR (x : Int))).toList == p.toList) = false := by
                  rw [ByteArray.toList_eq, ByteArray.toList_eq, HP1.out]
                  exact beq_eq_false_iff_ne.2 (fun h => he (by simpa [bStr] using h))
                have hne2 : ((bStr (octsR (x : Int))).toList != p.toList) = true := by rw [bne, hne]; rfl
                clear hpt he
                obtain ⟨S, hS⟩ : ∃ S, bStr (octsR (x : Int)) = S := ⟨_, rfl⟩
                rw [hS] at hne hne2
                have HS := Lib.hid hS
                clear hS
                go_wp2_with fail
                refine wp_region_held_drew (S := (fun _ : World => True)) (by kernel_rfl) trivial (fun hHeld => ?_)
                (refine take_want (i := 0) (d := some 72) ?_ (by kernel_rfl) (by kernel_rfl) (by kernel_rfl) (fun _ _ _ h => h) (by assumption) ?_ (by kernel_rfl) ?_; rotate_left; (· (intro o ho; simp only [List.getElem?_toArray, List.getElem?_cons_succ, List.getElem?_cons_zero, Option.some.injEq] at ho; subst ho; refine ⟨rfl, by rfl, fun w hSw => ?_⟩; (try dsimp only at hSw); go_simp; (first | done | with_reducible rfl))); simp only [Act.put, List.setIfInBounds_toArray, List.set_cons_zero, List.set_cons_succ])
                (refine take_want (i := 3) (d := some 75) ?_ (by kernel_rfl) (by kernel_rfl) (by kernel_rfl) (fun _ _ _ h => h) (by assumption) ?_ (by kernel_rfl) ?_; rotate_left; (· (intro o ho; simp only [List.getElem?_toArray, List.getElem?_cons_succ, List.getElem?_cons_zero, Option.some.injEq] at ho; subst ho; refine ⟨rfl, by rfl, fun w hSw => ?_⟩; (try dsimp only at hSw); go_simp; (first | done | with_reducible rfl))); simp only [Act.put, List.setIfInBounds_toArray, List.set_cons_zero, List.set_cons_succ])
                (refine take_want (i := 4) (d := some 76) ?_ (by kernel_rfl) (by kernel_rfl) (by kernel_rfl) (fun _ _ _ h => h) (by assumption) ?_ (by kernel_rfl) ?_; rotate_left; (· (intro o ho; simp only [List.getElem?_toArray, List.getElem?_cons_succ, List.getElem?_cons_zero, Option.some.injEq] at ho; subst ho; refine ⟨rfl, by rfl, fun w hSw => ?_⟩; (try dsimp only at hSw); go_simp; (first | done | with_reducible rfl))); simp only [Act.put, List.setIfInBounds_toArray, List.set_cons_zero, List.set_cons_succ])
                (refine take_want (i := 5) (d := some 77) ?_ (by kernel_rfl) (by kernel_rfl) (by kernel_rfl) (fun _ _ _ h => h) (by assumption) ?_ (by kernel_rfl) ?_; rotate_left; (· (intro o ho; simp only [List.getElem?_toArray, List.getElem?_cons_succ, List.getElem?_cons_zero, Option.some.injEq] at ho; subst ho; refine ⟨rfl, by rfl, fun w hSw => ?_⟩; (try dsimp only at hSw); go_simp; (first | done | with_reducible rfl))); simp only [Act.put, List.setIfInBounds_toArray, List.set_cons_zero, List.set_cons_succ])
                (refine take_want (i := 6) (d := some 78) ?_ (by kernel_rfl) (by kernel_rfl) (by kernel_rfl) (fun _ _ _ h => h) (by assumption) ?_ (by kernel_rfl) ?_; rotate_left; (· (intro o ho; simp only [List.getElem?_toArray, List.getElem?_cons_succ, List.getElem?_cons_zero, Option.some.injEq] at ho; subst ho; refine ⟨rfl, by rfl, fun w hSw => ?_⟩; (try dsimp only at hSw); go_simp; (first | done | with_reducible rfl))); simp only [Act.put, List.setIfInBounds_toArray, List.set_cons_zero, List.set_cons_succ])
                (refine take_want (i := 7) (d := some 79) ?_ (by kernel_rfl) (by kernel_rfl) (by kernel_rfl) (fun _ _ _ h => h) (by assumption) ?_ (by kernel_rfl) ?_; rotate_left; (· (intro o ho; simp only [List.getElem?_toArray, List.getElem?_cons_succ, List.getElem?_cons_zero, Option.some.injEq] at ho; subst ho; refine ⟨rfl, by rfl, fun w hSw => ?_⟩; (try dsimp only at hSw); go_simp; (first | done | with_reducible rfl))); simp only [Act.put, List.setIfInBounds_toArray, List.set_cons_zero, List.set_cons_succ])
                (refine take_want (i := 8) (d := some 80) ?_ (by kernel_rfl) (by kernel_rfl) (by kernel_rfl) (fun _ _ _ h => h) (by assumption) ?_ (by kernel_rfl) ?_; rotate_left; (· (intro o ho; simp only [List.getElem?_toArray, List.getElem?_cons_succ, List.getElem?_cons_zero, Option.some.injEq] at ho; subst ho; refine ⟨rfl, by rfl, fun w hSw => ?_⟩; (try dsimp only at hSw); go_simp; (first | done | with_reducible rfl))); simp only [Act.put, List.setIfInBounds_toArray, List.set_cons_zero, List.set_cons_succ])
                (refine take_want (i := 9) (d := some 81) ?_ (by kernel_rfl) (by kernel_rfl) (by kernel_rfl) (fun _ _ _ h => h) (by assumption) ?_ (by kernel_rfl) ?_; rotate_left; (· (intro o ho; simp only [List.getElem?_toArray, List.getElem?_cons_succ, List.getElem?_cons_zero, Option.some.injEq] at ho; subst ho; refine ⟨rfl, by rfl, fun w hSw => ?_⟩; (try dsimp only at hSw); go_simp; (first | done | with_reducible rfl))); simp only [Act.put, List.setIfInBounds_toArray, List.set_cons_zero, List.set_cons_succ])
                refine take_run (i := 1) (by kernel_rfl) (by kernel_rfl) ?_
                intro o ho K hK
                simp only [List.getElem?_toArray, List.getElem?_cons_succ, List.getElem?_cons_zero, Option.some.injEq] at ho
                subst ho
                go_simp
                go_at_call 192
                (with_reducible refine (HO3.out _).mono ?_)
                rintro e w1 ⟨v1, rfl, ho1, hbw1⟩
                obtain ⟨A1, c1, rfl⟩ := isB_slice ho1.isB
                have k1 := isB_bstr ho1.isB
                rw [HS.out] at k1
                clear ho1
                try (go_wp2_with fail)
                refine hK.out _ _ trivial (fun hHeld2 => ?_)
                clear hK K hHeld
                try simp only [Act.put, List.setIfInBounds_toArray, List.set_cons_zero, List.set_cons_succ]
                refine take_run (i := 2) (by kernel_rfl) (by kernel_rfl) ?_
                intro o ho K hK
                simp only [List.getElem?_toArray, List.getElem?_cons_succ, List.getElem?_cons_zero, Option.some.injEq] at ho
                subst ho
                go_simp
                refine hK.out _ _ trivial (fun hHeld3 => ?_)
                clear hK K hHeld2
                try simp only [Act.put, List.setIfInBounds_toArray, List.set_cons_zero, List.set_cons_succ]
                (refine take_want (i := 10) (d := some 82) ?_ (by kernel_rfl) (by kernel_rfl) (by kernel_rfl) (fun _ _ _ h => h) (by assumption) ?_ (by kernel_rfl) ?_; rotate_left; (· (intro o ho; simp only [List.getElem?_toArray, List.getElem?_cons_succ, List.getElem?_cons_zero, Option.some.injEq] at ho; subst ho; refine ⟨rfl, by rfl, fun w hSw => ?_⟩; (try dsimp only at hSw); go_simp; (first | done | with_reducible rfl))); simp only [Act.put, List.setIfInBounds_toArray, List.set_cons_zero, List.set_cons_succ])
                refine wpAnyH_done (by kernel_rfl) ?_ _
                have HW1 := Lib.hid ((Below.refl wr.heap.size wr).drew.trans hbw1)
                have HBW := Lib.hid (HB2.out.trans (HW1.out.mono HB2.out.size))
                clear hbw1 k1
                go_wp2_with fail
                go_ret2
                exact ⟨HBW.out, .inl ⟨HPT5.out.symm, rfl⟩⟩
      · have hld : leadR (l.getD i 0).toNat = none := by
          unfold leadR
          rw [if_neg (by omega), if_neg (by omega), if_neg (by omega), if_pos (by omega)]
        have hpt := HPT2.out
        rw [hld] at hpt
        have HPT3 := Lib.hid hpt
        clear hld hpt hbb
        generalize bat l i = b at *
        go_wp2_with fail
        go_ret2
        exact ⟨HB2.out, .inl ⟨HPT3.out.symm, rfl⟩⟩
      · have hld : leadR (l.getD i 0).toNat = none := by
          unfold leadR
          rw [if_neg (by omega), if_neg (by omega), if_neg (by omega), if_pos (by omega)]
        have hpt := HPT2.out
        rw [hld] at hpt
        have HPT3 := Lib.hid hpt
        clear hld hpt hbb
        generalize bat l i = b at *
        go_wp2_with fail
        go_ret2
        exact ⟨HB2.out, .inl ⟨HPT3.out.symm, rfl⟩⟩
      · have hld : leadR (l.getD i 0).toNat = some (0, (l.getD i 0).toNat) := by
          unfold leadR
          rw [if_neg (by omega), if_neg (by omega), if_neg (by omega), if_neg (by omega)]
        have hpt := HPT2.out
        rw [hld] at hpt
        simp only at hpt
        obtain ⟨x0, hx0⟩ : ∃ x0, (l.getD i 0).toNat = x0 := ⟨_, rfl⟩
        rw [hx0] at hpt
        have hxv : bat l i = (x0 : Int) := by omega
        have hx128 : x0 < 128 := by omega
        have HX := Lib.hid hxv
        have HX8 := Lib.hid hx128
        by_cases hn : l.length ≤ i + 0
        · rw [if_pos hn] at hpt
          have HPT3 := Lib.hid hpt
          exact absurd hn (by omega)
        · rw [if_neg hn] at hpt
          have hnI : (i : Int) < s.size := by omega
          obtain ⟨q, hq⟩ : ∃ q, contR x0 ((l.drop (i + 1)).take 0) = q := ⟨_, rfl⟩
          rw [hq] at hpt
          have HPT3 := Lib.hid hpt
          have HQ := Lib.hid hq
          have HN := Lib.hid hn
          clear hpt hld hbb hn hx0 hq hxv hx128
          generalize bat l i = b at *
          go_wp2_with fail
          go_loop [6, 8] (fun xx kk => PiRel l i 0 q xx kk) (fun _ kk => 0 + 2 - (intOf kk).toNat)
          case atStart => exact ⟨1, x0, rfl, by rw [HX.out], by omega, by omega, by have := HX8.out; simpa using this, HQ.out⟩
          case round =>
            obtain ⟨k, x, rfl, rfl, hk1, hk2, hxb, hct⟩ := hrel
            have hp := p64 (k := k) (by omega)
            have HXB := Lib.hid hxb
            have hx3 : (x : Int) < 33554432 := by omega
            have hn2 := HN.out
            by_cases hkn : k ≤ 0
            · exact absurd hkn (by omega)
            · have hke : k = 0 + 1 := by omega
              subst hke
              have hq2 : q = some x := by rw [← hct]; simp [contR]
              have hpt := HPT3.out
              rw [hq2] at hpt
              simp only at hpt
              obtain ⟨p, hp1, hp2⟩ := HC.out i 0 ((i : Int) + 1) (by omega) (by omega)
              have HO3 := Lib.hid (fun W => HO.out x W (by omega))
              have HPT4 := Lib.hid hpt
              have HP1 := Lib.hid hp1
              have hw1 : IntKind.i64.wrap (i : Int) = (i : Int) := by rw [IntKind.wrap_i64]; omega
              have hw2 : IntKind.i64.wrap ((i : Int) + 1) = (i : Int) + 1 := by rw [IntKind.wrap_i64]; omega
              clear hpt hct hq2 hxb hn2 hp hp1 hkn
              by_cases he : octsR (x : Int) = (l.drop i).take (0 + 1)
              · have hpt := HPT4.out
                rw [if_pos he] at hpt
                simp only [List.drop_drop] at hpt
                have HPT5 := Lib.hid hpt
                have hps : bStr (octsR (x : Int)) = p := by
                  rw [he, ← HP1.out, bStr_eq]
                have HPS := Lib.hid hps
                have hbe : (p.toList == p.toList) = true := by simp
                clear hpt he hps
                go_wp2_with fail
                refine wp_region_held_drew (S := (fun _ : World => True)) (by kernel_rfl) trivial (fun hHeld => ?_)
                (refine take_want (i := 0) (d := some 72) ?_ (by kernel_rfl) (by kernel_rfl) (by kernel_rfl) (fun _ _ _ h => h) (by assumption) ?_ (by kernel_rfl) ?_; rotate_left; (· (intro o ho; simp only [List.getElem?_toArray, List.getElem?_cons_succ, List.getElem?_cons_zero, Option.some.injEq] at ho; subst ho; refine ⟨rfl, by rfl, fun w hSw => ?_⟩; (try dsimp only at hSw); go_simp; (first | done | with_reducible rfl))); simp only [Act.put, List.setIfInBounds_toArray, List.set_cons_zero, List.set_cons_succ])
                (refine take_want (i := 3) (d := some 75) ?_ (by kernel_rfl) (by kernel_rfl) (by kernel_rfl) (fun _ _ _ h => h) (by assumption) ?_ (by kernel_rfl) ?_; rotate_left; (· (intro o ho; simp only [List.getElem?_toArray, List.getElem?_cons_succ, List.getElem?_cons_zero, Option.some.injEq] at ho; subst ho; refine ⟨rfl, by rfl, fun w hSw => ?_⟩; (try dsimp only at hSw); go_simp; (first | done | with_reducible rfl))); simp only [Act.put, List.setIfInBounds_toArray, List.set_cons_zero, List.set_cons_succ])
                (refine take_want (i := 4) (d := some 76) ?_ (by kernel_rfl) (by kernel_rfl) (by kernel_rfl) (fun _ _ _ h => h) (by assumption) ?_ (by kernel_rfl) ?_; rotate_left; (· (intro o ho; simp only [List.getElem?_toArray, List.getElem?_cons_succ, List.getElem?_cons_zero, Option.some.injEq] at ho; subst ho; refine ⟨rfl, by rfl, fun w hSw => ?_⟩; (try dsimp only at hSw); go_simp; (first | done | with_reducible rfl))); simp only [Act.put, List.setIfInBounds_toArray, List.set_cons_zero, List.set_cons_succ])
                (refine take_want (i := 5) (d := some 77) ?_ (by kernel_rfl) (by kernel_rfl) (by kernel_rfl) (fun _ _ _ h => h) (by assumption) ?_ (by kernel_rfl) ?_; rotate_left; (· (intro o ho; simp only [List.getElem?_toArray, List.getElem?_cons_succ, List.getElem?_cons_zero, Option.some.injEq] at ho; subst ho; refine ⟨rfl, by rfl, fun w hSw => ?_⟩; (try dsimp only at hSw); go_simp; (first | done | with_reducible rfl))); simp only [Act.put, List.setIfInBounds_toArray, List.set_cons_zero, List.set_cons_succ])
                (refine take_want (i := 6) (d := some 78) ?_ (by kernel_rfl) (by kernel_rfl) (by kernel_rfl) (fun _ _ _ h => h) (by assumption) ?_ (by kernel_rfl) ?_; rotate_left; (· (intro o ho; simp only [List.getElem?_toArray, List.getElem?_cons_succ, List.getElem?_cons_zero, Option.some.injEq] at ho; subst ho; refine ⟨rfl, by rfl, fun w hSw => ?_⟩; (try dsimp only at hSw); go_simp; (first | done | with_reducible rfl))); simp only [Act.put, List.setIfInBounds_toArray, List.set_cons_zero, List.set_cons_succ])
                (refine take_want (i := 7) (d := some 79) ?_ (by kernel_rfl) (by kernel_rfl) (by kernel_rfl) (fun _ _ _ h => h) (by assumption) ?_ (by kernel_rfl) ?_; rotate_left; (· (intro o ho; simp only [List.getElem?_toArray, List.getElem?_cons_succ, List.getElem?_cons_zero, Option.some.injEq] at ho; subst ho; refine ⟨rfl, by rfl, fun w hSw => ?_⟩; (try dsimp only at hSw); go_simp; (first | done | with_reducible rfl))); simp only [Act.put, List.setIfInBounds_toArray, List.set_cons_zero, List.set_cons_succ])
                (refine take_want (i := 8) (d := some 80) ?_ (by kernel_rfl) (by kernel_rfl) (by kernel_rfl) (fun _ _ _ h => h) (by assumption) ?_ (by kernel_rfl) ?_; rotate_left; (· (intro o ho; simp only [List.getElem?_toArray, List.getElem?_cons_succ, List.getElem?_cons_zero, Option.some.injEq] at ho; subst ho; refine ⟨rfl, by rfl, fun w hSw => ?_⟩; (try dsimp only at hSw); go_simp; (first | done | with_reducible rfl))); simp only [Act.put, List.setIfInBounds_toArray, List.set_cons_zero, List.set_cons_succ])
                (refine take_want (i := 9) (d := some 81) ?_ (by kernel_rfl) (by kernel_rfl) (by kernel_rfl) (fun _ _ _ h => h) (by assumption) ?_ (by kernel_rfl) ?_; rotate_left; (· (intro o ho; simp only [List.getElem?_toArray, List.getElem?_cons_succ, List.getElem?_cons_zero, Option.some.injEq] at ho; subst ho; refine ⟨rfl, by rfl, fun w hSw => ?_⟩; (try dsimp only at hSw); go_simp; (first | done | with_reducible rfl))); simp only [Act.put, List.setIfInBounds_toArray, List.set_cons_zero, List.set_cons_succ])
                refine take_run (i := 1) (by kernel_rfl) (by kernel_rfl) ?_
                intro o ho K hK
                simp only [List.getElem?_toArray, List.getElem?_cons_succ, List.getElem?_cons_zero, Option.some.injEq] at ho
                subst ho
                go_simp
                go_at_call 192
                (with_reducible refine (HO3.out _).mono ?_)
                rintro e w1 ⟨v1, rfl, ho1, hbw1⟩
                obtain ⟨A1, c1, rfl⟩ := isB_slice ho1.isB
                have k1 := isB_bstr ho1.isB
                rw [HPS.out] at k1
                clear ho1
                try (go_wp2_with fail)
                refine hK.out _ _ trivial (fun hHeld2 => ?_)
                clear hK K hHeld
                try simp only [Act.put, List.setIfInBounds_toArray, List.set_cons_zero, List.set_cons_succ]
                refine take_run (i := 2) (by kernel_rfl) (by kernel_rfl) ?_
                intro o ho K hK
                simp only [List.getElem?_toArray, List.getElem?_cons_succ, List.getElem?_cons_zero, Option.some.injEq] at ho
                subst ho
                go_simp
                refine hK.out _ _ trivial (fun hHeld3 => ?_)
                clear hK K hHeld2
                try simp only [Act.put, List.setIfInBounds_toArray, List.set_cons_zero, List.set_cons_succ]
                (refine take_want (i := 10) (d := some 82) ?_ (by kernel_rfl) (by kernel_rfl) (by kernel_rfl) (fun _ _ _ h => h) (by assumption) ?_ (by kernel_rfl) ?_; rotate_left; (· (intro o ho; simp only [List.getElem?_toArray, List.getElem?_cons_succ, List.getElem?_cons_zero, Option.some.injEq] at ho; subst ho; refine ⟨rfl, by rfl, fun w hSw => ?_⟩; (try dsimp only at hSw); go_simp; (first | done | with_reducible rfl))); simp only [Act.put, List.setIfInBounds_toArray, List.set_cons_zero, List.set_cons_succ])
                refine wpAnyH_done (by kernel_rfl) ?_ _
                have HW1 := Lib.hid ((Below.refl wr.heap.size wr).drew.trans hbw1)
                have HOW := Lib.hid (ownsRow_below HO2.out HW1.out)
                have HBW := Lib.hid (HB2.out.trans (HW1.out.mono HB2.out.size))
                have HPL := Lib.hid (show pre.length ≤ 1000000 by omega)
                obtain ⟨i0, hi0', hz0, hz1, hz2⟩ := info_parts infoInt
                clear hbw1 k1 hbe
                go_wp2_with (at_builtin; refine wpList_app _ rfl _ _ 211 rfl w.heap.size 3 i0 (.int .i64 0) 1 8 ulInts hi0' hz0 hz1 hz2 rfl (by decide) _ _ _ rfl (HOW.out.alloc _) _ 1 (uCells .i64 [x]) rfl ?k0 (uCells_one _ _) ?k1 ?k2 ?k3 ?_)
                case k0 => exact isR_at rfl rfl
                case k1 => have := HPL.out; unfold maxLen; omega
                case k2 => have := HPL.out; omega
                case k3 => have := HBW.out.size; simp; omega
                intro out' w4 hown' _ hbel'
                have HO4 := Lib.hid hown'
                have HB4 := Lib.hid ((HBW.out.alloc HBW.out.size _).trans hbel')
                clear hown' hbel'
                go_wp2
                go_roundw
                case rel =>
                  refine ⟨i + 1, pre ++ [x], by (first | go_num | (congr 1; omega)), by omega, by simp; omega, ?_, ?_, HB4.out⟩
                  · exact pts_more HPT5.out
                  · rw [uCells_app, List.length_append]; exact HO4.out
                case measure => simp [intOf]; omega
              · have hpt := HPT4.out
                rw [if_neg he] at hpt
                have HPT5 := Lib.hid hpt
                have hne : ((bStr (octsR (x : Int))).toList == p.toList) = false := by
                  rw [ByteArray.toList_eq, ByteArray.toList_eq, HP1.out]
                  exact beq_eq_false_iff_ne.2 (fun h => he (by simpa [bStr] using h))
                have hne2 : ((bStr (octsR (x : Int))).toList != p.toList) = true := by rw [bne, hne]; rfl
                clear hpt he
                obtain ⟨S, hS⟩ : ∃ S, bStr (octsR (x : Int)) = S := ⟨_, rfl⟩
                rw [hS] at hne hne2
                have HS := Lib.hid hS
                clear hS
                go_wp2_with fail
                refine wp_region_held_drew (S := (fun _ : World => True)) (by kernel_rfl) trivial (fun hHeld => ?_)
                (refine take_want (i := 0) (d := some 72) ?_ (by kernel_rfl) (by kernel_rfl) (by kernel_rfl) (fun _ _ _ h => h) (by assumption) ?_ (by kernel_rfl) ?_; rotate_left; (· (intro o ho; simp only [List.getElem?_toArray, List.getElem?_cons_succ, List.getElem?_cons_zero, Option.some.injEq] at ho; subst ho; refine ⟨rfl, by rfl, fun w hSw => ?_⟩; (try dsimp only at hSw); go_simp; (first | done | with_reducible rfl))); simp only [Act.put, List.setIfInBounds_toArray, List.set_cons_zero, List.set_cons_succ])
                (refine take_want (i := 3) (d := some 75) ?_ (by kernel_rfl) (by kernel_rfl) (by kernel_rfl) (fun _ _ _ h => h) (by assumption) ?_ (by kernel_rfl) ?_; rotate_left; (· (intro o ho; simp only [List.getElem?_toArray, List.getElem?_cons_succ, List.getElem?_cons_zero, Option.some.injEq] at ho; subst ho; refine ⟨rfl, by rfl, fun w hSw => ?_⟩; (try dsimp only at hSw); go_simp; (first | done | with_reducible rfl))); simp only [Act.put, List.setIfInBounds_toArray, List.set_cons_zero, List.set_cons_succ])
                (refine take_want (i := 4) (d := some 76) ?_ (by kernel_rfl) (by kernel_rfl) (by kernel_rfl) (fun _ _ _ h => h) (by assumption) ?_ (by kernel_rfl) ?_; rotate_left; (· (intro o ho; simp only [List.getElem?_toArray, List.getElem?_cons_succ, List.getElem?_cons_zero, Option.some.injEq] at ho; subst ho; refine ⟨rfl, by rfl, fun w hSw => ?_⟩; (try dsimp only at hSw); go_simp; (first | done | with_reducible rfl))); simp only [Act.put, List.setIfInBounds_toArray, List.set_cons_zero, List.set_cons_succ])
                (refine take_want (i := 5) (d := some 77) ?_ (by kernel_rfl) (by kernel_rfl) (by kernel_rfl) (fun _ _ _ h => h) (by assumption) ?_ (by kernel_rfl) ?_; rotate_left; (· (intro o ho; simp only [List.getElem?_toArray, List.getElem?_cons_succ, List.getElem?_cons_zero, Option.some.injEq] at ho; subst ho; refine ⟨rfl, by rfl, fun w hSw => ?_⟩; (try dsimp only at hSw); go_simp; (first | done | with_reducible rfl))); simp only [Act.put, List.setIfInBounds_toArray, List.set_cons_zero, List.set_cons_succ])
                (refine take_want (i := 6) (d := some 78) ?_ (by kernel_rfl) (by kernel_rfl) (by kernel_rfl) (fun _ _ _ h => h) (by assumption) ?_ (by kernel_rfl) ?_; rotate_left; (· (intro o ho; simp only [List.getElem?_toArray, List.getElem?_cons_succ, List.getElem?_cons_zero, Option.some.injEq] at ho; subst ho; refine ⟨rfl, by rfl, fun w hSw => ?_⟩; (try dsimp only at hSw); go_simp; (first | done | with_reducible rfl))); simp only [Act.put, List.setIfInBounds_toArray, List.set_cons_zero, List.set_cons_succ])
                (refine take_want (i := 7) (d := some 79) ?_ (by kernel_rfl) (by kernel_rfl) (by kernel_rfl) (fun _ _ _ h => h) (by assumption) ?_ (by kernel_rfl) ?_; rotate_left; (· (intro o ho; simp only [List.getElem?_toArray, List.getElem?_cons_succ, List.getElem?_cons_zero, Option.some.injEq] at ho; subst ho; refine ⟨rfl, by rfl, fun w hSw => ?_⟩; (try dsimp only at hSw); go_simp; (first | done | with_reducible rfl))); simp only [Act.put, List.setIfInBounds_toArray, List.set_cons_zero, List.set_cons_succ])
                (refine take_want (i := 8) (d := some 80) ?_ (by kernel_rfl) (by kernel_rfl) (by kernel_rfl) (fun _ _ _ h => h) (by assumption) ?_ (by kernel_rfl) ?_; rotate_left; (· (intro o ho; simp only [List.getElem?_toArray, List.getElem?_cons_succ, List.getElem?_cons_zero, Option.some.injEq] at ho; subst ho; refine ⟨rfl, by rfl, fun w hSw => ?_⟩; (try dsimp only at hSw); go_simp; (first | done | with_reducible rfl))); simp only [Act.put, List.setIfInBounds_toArray, List.set_cons_zero, List.set_cons_succ])
                (refine take_want (i := 9) (d := some 81) ?_ (by kernel_rfl) (by kernel_rfl) (by kernel_rfl) (fun _ _ _ h => h) (by assumption) ?_ (by kernel_rfl) ?_; rotate_left; (· (intro o ho; simp only [List.getElem?_toArray, List.getElem?_cons_succ, List.getElem?_cons_zero, Option.some.injEq] at ho; subst ho; refine ⟨rfl, by rfl, fun w hSw => ?_⟩; (try dsimp only at hSw); go_simp; (first | done | with_reducible rfl))); simp only [Act.put, List.setIfInBounds_toArray, List.set_cons_zero, List.set_cons_succ])
                refine take_run (i := 1) (by kernel_rfl) (by kernel_rfl) ?_
                intro o ho K hK
                simp only [List.getElem?_toArray, List.getElem?_cons_succ, List.getElem?_cons_zero, Option.some.injEq] at ho
                subst ho
                go_simp
                go_at_call 192
                (with_reducible refine (HO3.out _).mono ?_)
                rintro e w1 ⟨v1, rfl, ho1, hbw1⟩
                obtain ⟨A1, c1, rfl⟩ := isB_slice ho1.isB
                have k1 := isB_bstr ho1.isB
                rw [HS.out] at k1
                clear ho1
                try (go_wp2_with fail)
                refine hK.out _ _ trivial (fun hHeld2 => ?_)
                clear hK K hHeld
                try simp only [Act.put, List.setIfInBounds_toArray, List.set_cons_zero, List.set_cons_succ]
                refine take_run (i := 2) (by kernel_rfl) (by kernel_rfl) ?_
                intro o ho K hK
                simp only [List.getElem?_toArray, List.getElem?_cons_succ, List.getElem?_cons_zero, Option.some.injEq] at ho
                subst ho
                go_simp
                refine hK.out _ _ trivial (fun hHeld3 => ?_)
                clear hK K hHeld2
                try simp only [Act.put, List.setIfInBounds_toArray, List.set_cons_zero, List.set_cons_succ]
                (refine take_want (i := 10) (d := some 82) ?_ (by kernel_rfl) (by kernel_rfl) (by kernel_rfl) (fun _ _ _ h => h) (by assumption) ?_ (by kernel_rfl) ?_; rotate_left; (· (intro o ho; simp only [List.getElem?_toArray, List.getElem?_cons_succ, List.getElem?_cons_zero, Option.some.injEq] at ho; subst ho; refine ⟨rfl, by rfl, fun w hSw => ?_⟩; (try dsimp only at hSw); go_simp; (first | done | with_reducible rfl))); simp only [Act.put, List.setIfInBounds_toArray, List.set_cons_zero, List.set_cons_succ])
                refine wpAnyH_done (by kernel_rfl) ?_ _
                have HW1 := Lib.hid ((Below.refl wr.heap.size wr).drew.trans hbw1)
                have HBW := Lib.hid (HB2.out.trans (HW1.out.mono HB2.out.size))
                clear hbw1 k1
                go_wp2_with fail
                go_ret2
                exact ⟨HBW.out, .inl ⟨HPT5.out.symm, rfl⟩⟩
    · have hi : i = l.length := by omega
      have hge : (s.size : Int) ≤ i := by omega
      have hpt := HPT.out
      rw [hi, List.drop_length, pts_nil] at hpt
      have HPT2 := Lib.hid hpt
      clear hpt hi hlt
      go_wp2_with fail
      go_ret2
      refine ⟨HB2.out, .inr ⟨pre, _, by rw [← HPT2.out]; simp, rfl, IsU.of_own HO2.out⟩⟩
end Go.Proofs.YtlmnmgokfnnbbaaGreatDoor
end

/- Walks over the reference's layer 7 (charset): width, has, Valid. -/
section
set_option linter.unusedSimpArgs false
set_option linter.unusedVariables false
namespace Go.Proofs.YtlmnmgokfnnbbaaGreatDoor
open Go.RowKit Go.Cr
def widR (k : Int) : Int := match widthK k with
  | some n => (n : Int)
  | none => -1
theorem widR_neg {k : Int} : widR k < 0 ↔ widthK k = none := by
  unfold widR
  cases widthK k with
  | none => simp
  | some n => simp
theorem kinds (k : Int) : (k = 12 ∨ k = 28 ∨ k = 30 ∨ k = 19 ∨ k = 20 ∨ k = 22 ∨ k = 26) ∨ (k ≠ 12 ∧ k ≠ 28 ∧ k ≠ 30 ∧ k ≠ 19 ∧ k ≠ 20 ∧ k ≠ 22 ∧ k ≠ 26) := by omega
set_option maxRecDepth 100000 in
set_option maxHeartbeats 4000000 in
theorem width_any (k : Int) (w : World) : Calls Tryz.prog 182 #[.int .i64 k] w fun e w' => e = .returned (.int .i64 (widR k)) ∧ w' = w := by
  rcases kinds k with (rfl | rfl | rfl | rfl | rfl | rfl | rfl) | ⟨n1, n2, n3, n4, n5, n6, n7⟩
  all_goals try
    go_enter Tryz.func182, Tryz.ntmps182
    go_wp2_with fail
    go_ret
    exact ⟨rfl, rfl⟩
  have hv : widR k = -1 := by
    unfold widR widthK
    rw [if_neg n1, if_neg (by omega), if_neg n2, if_neg n3]
  rw [hv]
  have e1 : (k == 12) = false := beq_eq_false_iff_ne.2 n1
  have e2 : (k == 28) = false := beq_eq_false_iff_ne.2 n2
  have e3 : (k == 30) = false := beq_eq_false_iff_ne.2 n3
  have e4 : (k == 19) = false := beq_eq_false_iff_ne.2 n4
  have e5 : (k == 20) = false := beq_eq_false_iff_ne.2 n5
  have e6 : (k == 22) = false := beq_eq_false_iff_ne.2 n6
  have e7 : (k == 26) = false := beq_eq_false_iff_ne.2 n7
  clear n1 n2 n3 n4 n5 n6 n7 hv
  go_enter Tryz.func182, Tryz.ntmps182
  go_wp2_with fail
  go_ret
  exact ⟨rfl, rfl⟩

theorem octsR_pos (c : Int) : decide (0 < (octsR c).length) = okc c := by
  unfold octsR
  split
  · rename_i h
    have h0 := okc_iff.1 h
    have hh := (enc1_len (c := c.toNat) (by rw [show ((c.toNat : Nat) : Int) = c by omega]; exact h)).1
    rw [h]
    exact decide_eq_true (by omega)
  · rename_i h
    simp at h
    rw [h]
    rfl
def RetLn (n : Nat) (w : World) (e : Ending) (w' : World) : Prop := ∃ A k, e = .returned (.slice A n k) ∧ Below w.heap.size w w'
theorem octets_len (c : Nat) (w : World) (h1 : c < 1099511627776) : Calls Tryz.prog 192 #[.int .i64 (c : Int)] w (RetLn (octsR (c : Int)).length w) :=
  (octets_any c w h1).mono fun e w' ⟨v, he, ho, hb⟩ => by
    obtain ⟨A, k, rfl⟩ := isB_slice ho.isB
    exact ⟨A, k, he, hb⟩
set_option maxRecDepth 100000 in
set_option maxHeartbeats 4000000 in
theorem has_oct (k : Int) (c : Nat) (w : World) (h1 : c < 1099511627776) (hk : k = 12 ∨ k = 28) : Calls Tryz.prog 183 #[.int .i64 k, .int .i64 (c : Int)] w (RetB (.bool (okc c)) w) := by
  have HO : Hid (∀ W, Calls Tryz.prog 192 #[.int .i64 (c : Int)] W (RetLn (octsR (c : Int)).length W)) := fun W => octets_len c W h1
  have HP := Lib.hid (octsR_pos (c : Int))
  generalize (octsR (c : Int)).length = n at *
  generalize okc (c : Int) = B at *
  rcases hk with rfl | rfl
  all_goals
    go_enter Tryz.func183, Tryz.ntmps183
    go_wp2_with (((go_at_call 192); (with_reducible refine (HO.out _).mono ?_); rintro e w1 ⟨A1, k1, rfl, hbw1⟩))
    go_ret
    exact ⟨by rw [← HP.out]; rfl, hbw1⟩
set_option maxRecDepth 100000 in
set_option maxHeartbeats 4000000 in
theorem has_30 (c : Nat) (w : World) (h1 : c < 1099511627776) : Calls Tryz.prog 183 #[.int .i64 30, .int .i64 (c : Int)] w (RetB (.bool (hasK 30 c)) w) := by
  have HO : Hid (∀ W, Calls Tryz.prog 192 #[.int .i64 (c : Int)] W (RetLn (octsR (c : Int)).length W)) := fun W => octets_len c W h1
  have hp := octsR_pos (c : Int)
  have hv : hasK 30 (c : Int) = (okc (c : Int) && decide ((c : Int) ≤ 65535)) := rfl
  rw [hv]
  generalize (octsR (c : Int)).length = n at *
  generalize okc (c : Int) = B at *
  have HP := Lib.hid hp
  clear hp hv h1
  by_cases hn : 0 < n
  · have hB : B = true := by rw [← HP.out]; simp; omega
    subst hB
    have hnI : decide (0 < n) = true := decide_eq_true hn
    clear HP hn
    by_cases hc : (c : Int) ≤ 65535
    · rw [decide_eq_true hc]
      have hc2 : (c : Int) < 65536 := by omega
      clear hc
      go_enter Tryz.func183, Tryz.ntmps183
      go_wp2_with (((go_at_call 192); (with_reducible refine (HO.out _).mono ?_); rintro e w1 ⟨A1, k1, rfl, hbw1⟩))
      go_ret
      exact ⟨rfl, hbw1⟩
    · rw [decide_eq_false hc]
      have hc' : decide ((c : Int) < 65536) = false := decide_eq_false (by omega)
      clear hc
      go_enter Tryz.func183, Tryz.ntmps183
      go_wp2_with (((go_at_call 192); (with_reducible refine (HO.out _).mono ?_); rintro e w1 ⟨A1, k1, rfl, hbw1⟩))
      go_ret
      exact ⟨rfl, hbw1⟩
  · have hB : B = false := by rw [← HP.out]; simp; omega
    subst hB
    obtain rfl : n = 0 := by omega
    clear HP
    go_enter Tryz.func183, Tryz.ntmps183
    go_wp2_with (((go_at_call 192); (with_reducible refine (HO.out _).mono ?_); rintro e w1 ⟨A1, k1, rfl, hbw1⟩))
    go_ret
    exact ⟨rfl, hbw1⟩
set_option maxRecDepth 100000 in
set_option maxHeartbeats 4000000 in
theorem has_22 (c : Nat) (w : World) : Calls Tryz.prog 183 #[.int .i64 22, .int .i64 (c : Int)] w (RetB (.bool (hasK 22 c)) w) := by
  have hv : hasK 22 (c : Int) = (decide (0 ≤ (c : Int)) && decide ((c : Int) ≤ 127)) := rfl
  rw [hv]
  by_cases h : (c : Int) ≤ 127
  · rw [decide_eq_true h, decide_eq_true (by omega)]
    have h2 : (c : Int) < 128 := by omega
    clear h hv
    go_enter Tryz.func183, Tryz.ntmps183
    go_wp2_with fail
    (refine bodyPost_retB (v := .bool true) (by (simp only [results, Tryz.results183]; try go_simp)) rfl rfl ?_; ((repeat' (first | (with_reducible exact Below.refl _ _) | (with_reducible assumption) | (with_reducible refine Below.setCell ?_ ?_ _) | (with_reducible refine Below.alloc ?_ ?_ _) | (with_reducible refine Below.drew ?_) | (with_reducible refine below_drewN ?_ _) | (with_reducible refine Below.step (by with_reducible assumption) ?_ ?_))) <;> (first | omega | (simp; done) | (simp; omega))))
  · rw [decide_eq_false h, decide_eq_true (by omega)]
    have h' : (128 : Int) ≤ c := by omega
    clear h
    go_enter Tryz.func183, Tryz.ntmps183
    go_wp2_with fail
    (refine bodyPost_retB (v := .bool false) (by (simp only [results, Tryz.results183]; try go_simp)) rfl rfl ?_; ((repeat' (first | (with_reducible exact Below.refl _ _) | (with_reducible assumption) | (with_reducible refine Below.setCell ?_ ?_ _) | (with_reducible refine Below.alloc ?_ ?_ _) | (with_reducible refine Below.drew ?_) | (with_reducible refine below_drewN ?_ _) | (with_reducible refine Below.step (by with_reducible assumption) ?_ ?_))) <;> (first | omega | (simp; done) | (simp; omega))))
set_option maxRecDepth 100000 in
set_option maxHeartbeats 4000000 in
theorem has_26 (c : Nat) (w : World) : Calls Tryz.prog 183 #[.int .i64 26, .int .i64 (c : Int)] w (RetB (.bool (hasK 26 c)) w) := by
  have hv : hasK 26 (c : Int) = (decide (32 ≤ (c : Int)) && decide ((c : Int) ≤ 126)) := rfl
  rw [hv]
  rcases (show (c : Int) < 32 ∨ (32 ≤ (c : Int) ∧ (c : Int) ≤ 126) ∨ 127 ≤ (c : Int) by omega) with h | ⟨h, h'⟩ | h
  · rw [decide_eq_false (by omega : ¬ (32 ≤ (c : Int))), Bool.false_and]
    go_enter Tryz.func183, Tryz.ntmps183
    go_wp2_with fail
    (refine bodyPost_retB (v := .bool false) (by (simp only [results, Tryz.results183]; try go_simp)) rfl rfl ?_; ((repeat' (first | (with_reducible exact Below.refl _ _) | (with_reducible assumption) | (with_reducible refine Below.setCell ?_ ?_ _) | (with_reducible refine Below.alloc ?_ ?_ _) | (with_reducible refine Below.drew ?_) | (with_reducible refine below_drewN ?_ _) | (with_reducible refine Below.step (by with_reducible assumption) ?_ ?_))) <;> (first | omega | (simp; done) | (simp; omega))))
  · rw [decide_eq_true h, decide_eq_true h']
    have h2 : (c : Int) < 127 := by omega
    clear h' hv
    go_enter Tryz.func183, Tryz.ntmps183
    go_wp2_with fail
    (refine bodyPost_retB (v := .bool true) (by (simp only [results, Tryz.results183]; try go_simp)) rfl rfl ?_; ((repeat' (first | (with_reducible exact Below.refl _ _) | (with_reducible assumption) | (with_reducible refine Below.setCell ?_ ?_ _) | (with_reducible refine Below.alloc ?_ ?_ _) | (with_reducible refine Below.drew ?_) | (with_reducible refine below_drewN ?_ _) | (with_reducible refine Below.step (by with_reducible assumption) ?_ ?_))) <;> (first | omega | (simp; done) | (simp; omega))))
  · rw [decide_eq_false (by omega : ¬ ((c : Int) ≤ 126)), Bool.and_false]
    go_enter Tryz.func183, Tryz.ntmps183
    go_wp2_with fail
    (refine bodyPost_retB (v := .bool false) (by (simp only [results, Tryz.results183]; try go_simp)) rfl rfl ?_; ((repeat' (first | (with_reducible exact Below.refl _ _) | (with_reducible assumption) | (with_reducible refine Below.setCell ?_ ?_ _) | (with_reducible refine Below.alloc ?_ ?_ _) | (with_reducible refine Below.drew ?_) | (with_reducible refine below_drewN ?_ _) | (with_reducible refine Below.step (by with_reducible assumption) ?_ ?_))) <;> (first | omega | (simp; done) | (simp; omega))))
set_option maxRecDepth 100000 in
set_option maxHeartbeats 4000000 in
theorem has_20 (c : Nat) (w : World) : Calls Tryz.prog 183 #[.int .i64 20, .int .i64 (c : Int)] w (RetB (.bool (hasK 20 c)) w) := by
  have hv : hasK 20 (c : Int) = ((decide (32 ≤ (c : Int)) && decide ((c : Int) ≤ 126)) || (decide (160 ≤ (c : Int)) && decide ((c : Int) ≤ 255))) := rfl
  rcases (show (c : Int) < 32 ∨ (32 ≤ (c : Int) ∧ (c : Int) ≤ 126) ∨ (127 ≤ (c : Int) ∧ (c : Int) < 160) ∨ (160 ≤ (c : Int) ∧ (c : Int) ≤ 255) ∨ 256 ≤ (c : Int) by omega) with h | ⟨h, h'⟩ | ⟨h, h'⟩ | ⟨h, h'⟩ | h
  · have : hasK 20 (c : Int) = false := by rw [hv]; simp; omega
    rw [this]
    clear hv this
    go_enter Tryz.func183, Tryz.ntmps183
    go_wp2_with fail
    (refine bodyPost_retB (v := .bool false) (by (simp only [results, Tryz.results183]; try go_simp)) rfl rfl ?_; ((repeat' (first | (with_reducible exact Below.refl _ _) | (with_reducible assumption) | (with_reducible refine Below.setCell ?_ ?_ _) | (with_reducible refine Below.alloc ?_ ?_ _) | (with_reducible refine Below.drew ?_) | (with_reducible refine below_drewN ?_ _) | (with_reducible refine Below.step (by with_reducible assumption) ?_ ?_))) <;> (first | omega | (simp; done) | (simp; omega))))
  · have : hasK 20 (c : Int) = true := by rw [hv]; simp; omega
    rw [this]
    clear hv this
    go_enter Tryz.func183, Tryz.ntmps183
    go_wp2_with fail
    (refine bodyPost_retB (v := .bool true) (by (simp only [results, Tryz.results183]; try go_simp)) rfl rfl ?_; ((repeat' (first | (with_reducible exact Below.refl _ _) | (with_reducible assumption) | (with_reducible refine Below.setCell ?_ ?_ _) | (with_reducible refine Below.alloc ?_ ?_ _) | (with_reducible refine Below.drew ?_) | (with_reducible refine below_drewN ?_ _) | (with_reducible refine Below.step (by with_reducible assumption) ?_ ?_))) <;> (first | omega | (simp; done) | (simp; omega))))
  · have : hasK 20 (c : Int) = false := by rw [hv]; simp; omega
    rw [this]
    clear hv this
    go_enter Tryz.func183, Tryz.ntmps183
    go_wp2_with fail
    (refine bodyPost_retB (v := .bool false) (by (simp only [results, Tryz.results183]; try go_simp)) rfl rfl ?_; ((repeat' (first | (with_reducible exact Below.refl _ _) | (with_reducible assumption) | (with_reducible refine Below.setCell ?_ ?_ _) | (with_reducible refine Below.alloc ?_ ?_ _) | (with_reducible refine Below.drew ?_) | (with_reducible refine below_drewN ?_ _) | (with_reducible refine Below.step (by with_reducible assumption) ?_ ?_))) <;> (first | omega | (simp; done) | (simp; omega))))
  · have : hasK 20 (c : Int) = true := by rw [hv]; simp; omega
    rw [this]
    have h3 : decide ((c : Int) < 127) = false := decide_eq_false (by omega)
    have h4 : (32 : Int) ≤ c := by omega
    have h5 : (c : Int) < 256 := by omega
    clear hv this h'
    go_enter Tryz.func183, Tryz.ntmps183
    go_wp2_with fail
    (refine bodyPost_retB (v := .bool true) (by (simp only [results, Tryz.results183]; try go_simp)) rfl rfl ?_; ((repeat' (first | (with_reducible exact Below.refl _ _) | (with_reducible assumption) | (with_reducible refine Below.setCell ?_ ?_ _) | (with_reducible refine Below.alloc ?_ ?_ _) | (with_reducible refine Below.drew ?_) | (with_reducible refine below_drewN ?_ _) | (with_reducible refine Below.step (by with_reducible assumption) ?_ ?_))) <;> (first | omega | (simp; done) | (simp; omega))))
  · have : hasK 20 (c : Int) = false := by rw [hv]; simp; omega
    rw [this]
    have h3 : (127 : Int) ≤ c := by omega
    clear hv this
    go_enter Tryz.func183, Tryz.ntmps183
    go_wp2_with fail
    (refine bodyPost_retB (v := .bool false) (by (simp only [results, Tryz.results183]; try go_simp)) rfl rfl ?_; ((repeat' (first | (with_reducible exact Below.refl _ _) | (with_reducible assumption) | (with_reducible refine Below.setCell ?_ ?_ _) | (with_reducible refine Below.alloc ?_ ?_ _) | (with_reducible refine Below.drew ?_) | (with_reducible refine below_drewN ?_ _) | (with_reducible refine Below.step (by with_reducible assumption) ?_ ?_))) <;> (first | omega | (simp; done) | (simp; omega))))
def othL : List Int := [32, 39, 40, 41, 43, 44, 45, 46, 47, 58, 61, 63]
def OtRel (c : Int) (ix : Value) : Prop := ∃ j : Nat, j ≤ 12 ∧ ix = .int .i64 (j : Int) ∧ ∀ m, m < j → othL[m]? ≠ some c
theorem oth_at : ∀ j : Fin 12, othL[j.val]? = some ((((⟨#[32, 39, 40, 41, 43, 44, 45, 46, 47, 58, 61, 63]⟩ : ByteArray)[j.val]'(by have := j.isLt; exact this)).toNat : Nat) : Int) := by decide
set_option maxRecDepth 100000 in
set_option maxHeartbeats 4000000 in
theorem has_19 (c : Nat) (w : World) : Calls Tryz.prog 183 #[.int .i64 19, .int .i64 (c : Int)] w (RetB (.bool (hasK 19 c)) w) := by
  have HP : Hid (hasK 19 (c : Int) = (((decide (97 ≤ (c : Int)) && decide ((c : Int) ≤ 122)) || (decide (65 ≤ (c : Int)) && decide ((c : Int) ≤ 90)) || (decide (48 ≤ (c : Int)) && decide ((c : Int) ≤ 57))) || othL.contains (c : Int))) := rfl
  by_cases hin : (97 ≤ (c : Int) ∧ (c : Int) ≤ 122) ∨ (65 ≤ (c : Int) ∧ (c : Int) ≤ 90) ∨ (48 ≤ (c : Int) ∧ (c : Int) ≤ 57)
  · have hv : hasK 19 (c : Int) = true := by rw [HP.out]; simp; omega
    rw [hv]
    clear hv HP
    rcases hin with ⟨k1, k2⟩ | ⟨k1, k2⟩ | ⟨k1, k2⟩
    · have k3 : (58 : Int) ≤ c := by omega
      have k4 : (91 : Int) ≤ c := by omega
      go_enter Tryz.func183, Tryz.ntmps183
      go_wp2_with fail
      (refine bodyPost_retB (v := .bool true) (by (simp only [results, Tryz.results183]; try go_simp)) rfl rfl ?_; ((repeat' (first | (with_reducible exact Below.refl _ _) | (with_reducible assumption) | (with_reducible refine Below.setCell ?_ ?_ _) | (with_reducible refine Below.alloc ?_ ?_ _) | (with_reducible refine Below.drew ?_) | (with_reducible refine below_drewN ?_ _) | (with_reducible refine Below.step (by with_reducible assumption) ?_ ?_))) <;> (first | omega | (simp; done) | (simp; omega))))
    · have k3 : (58 : Int) ≤ c := by omega
      go_enter Tryz.func183, Tryz.ntmps183
      go_wp2_with fail
      (refine bodyPost_retB (v := .bool true) (by (simp only [results, Tryz.results183]; try go_simp)) rfl rfl ?_; ((repeat' (first | (with_reducible exact Below.refl _ _) | (with_reducible assumption) | (with_reducible refine Below.setCell ?_ ?_ _) | (with_reducible refine Below.alloc ?_ ?_ _) | (with_reducible refine Below.drew ?_) | (with_reducible refine below_drewN ?_ _) | (with_reducible refine Below.step (by with_reducible assumption) ?_ ?_))) <;> (first | omega | (simp; done) | (simp; omega))))
    · go_enter Tryz.func183, Tryz.ntmps183
      go_wp2_with fail
      (refine bodyPost_retB (v := .bool true) (by (simp only [results, Tryz.results183]; try go_simp)) rfl rfl ?_; ((repeat' (first | (with_reducible exact Below.refl _ _) | (with_reducible assumption) | (with_reducible refine Below.setCell ?_ ?_ _) | (with_reducible refine Below.alloc ?_ ?_ _) | (with_reducible refine Below.drew ?_) | (with_reducible refine below_drewN ?_ _) | (with_reducible refine Below.step (by with_reducible assumption) ?_ ?_))) <;> (first | omega | (simp; done) | (simp; omega))))
  · have hv : hasK 19 (c : Int) = othL.contains (c : Int) := by
      rw [HP.out]
      have : ((decide (97 ≤ (c : Int)) && decide ((c : Int) ≤ 122)) || (decide (65 ≤ (c : Int)) && decide ((c : Int) ≤ 90)) || (decide (48 ≤ (c : Int)) && decide ((c : Int) ≤ 57))) = false := by
        rw [Bool.eq_false_iff]
        intro h
        simp only [Bool.or_eq_true, Bool.and_eq_true, decide_eq_true_eq] at h
        omega
      rw [this, Bool.false_or]
    obtain ⟨B, hB⟩ : ∃ B, othL.contains (c : Int) = B := ⟨_, rfl⟩
    rw [hv, hB]
    have HB := Lib.hid hB
    clear hv HP hB
    rcases (show (c : Int) < 48 ∨ (57 < (c : Int) ∧ (c : Int) < 65) ∨ (90 < (c : Int) ∧ (c : Int) < 97) ∨ 122 < (c : Int) by omega) with k1 | ⟨k1, k2⟩ | ⟨k1, k2⟩ | k1
    all_goals
      clear hin
      go_enter Tryz.func183, Tryz.ntmps183
      go_wp2_with fail
      go_loop [6] (fun ix => OtRel (c : Int) ix) (fun ix => 13 - (intOf ix).toNat)
      case atStart => exact ⟨0, by omega, rfl, fun m h => by omega⟩
      case round =>
        obtain ⟨j, hj, rfl, hno⟩ := hrel
        have HNO := Lib.hid hno
        clear hno
        by_cases hlt : j < 12
        · have hat := oth_at ⟨j, hlt⟩
          simp only at hat
          have hjI : (j : Int) < 12 := by omega
          have hjs : j < (⟨#[32, 39, 40, 41, 43, 44, 45, 46, 47, 58, 61, 63]⟩ : ByteArray).size := hlt
          obtain ⟨y, hy⟩ : ∃ y : Nat, ((⟨#[32, 39, 40, 41, 43, 44, 45, 46, 47, 58, 61, 63]⟩ : ByteArray)[j]'hjs).toNat = y := ⟨_, rfl⟩
          have hyI : ((((⟨#[32, 39, 40, 41, 43, 44, 45, 46, 47, 58, 61, 63]⟩ : ByteArray)[j]'hjs).toNat : Nat) : Int) = (y : Int) := by rw [hy]
          have hat2 : othL[j]? = some (y : Int) := by rw [← hyI]; exact hat
          have hyb : (y : Int) < 256 := by rw [← hyI]; have := ((⟨#[32, 39, 40, 41, 43, 44, 45, 46, 47, 58, 61, 63]⟩ : ByteArray)[j]'hjs).toNat_lt; omega
          have HAT := Lib.hid hat2
          clear hat hat2 hy
          by_cases hyc : (y : Int) = c
          · have hBt : B = true := by
              rw [← HB.out, List.contains_eq_mem, decide_eq_true_eq, ← hyc]
              exact List.mem_of_getElem? HAT.out
            have he : ((y : Int) == (c : Int)) = true := by rw [hyc]; exact beq_self_eq_true _
            have HBT := Lib.hid hBt
            clear HB HNO hBt HAT hyc
            go_wp2_with fail
            go_ret
            exact ⟨by rw [HBT.out]; rfl, by ((repeat' (first | (with_reducible exact Below.refl _ _) | (with_reducible assumption) | (with_reducible refine Below.setCell ?_ ?_ _) | (with_reducible refine Below.alloc ?_ ?_ _) | (with_reducible refine Below.drew ?_) | (with_reducible refine below_drewN ?_ _) | (with_reducible refine Below.step (by with_reducible assumption) ?_ ?_))) <;> (first | omega | (simp; done) | (simp; omega)))⟩
          · have he : ((y : Int) == (c : Int)) = false := beq_eq_false_iff_ne.2 hyc
            have HYC := Lib.hid hyc
            clear hyc
            go_wp2_with fail
            go_round
            case rel =>
              refine ⟨j + 1, by omega, by go_num, fun m hm => ?_⟩
              by_cases hmj : m < j
              · exact HNO.out m hmj
              · obtain rfl : m = j := by omega
                rw [HAT.out]
                exact fun e => HYC.out (Option.some.inj e)
            case measure => (simp [intOf]; try omega)
        · obtain rfl : j = 12 := by omega
          have hBf : B = false := by
            rw [← HB.out, List.contains_eq_mem, decide_eq_false_iff_not]
            intro hm
            obtain ⟨m, hm⟩ := List.getElem?_of_mem hm
            have : m < 12 := by
              rcases Nat.lt_or_ge m 12 with h | h
              · exact h
              · rw [List.getElem?_eq_none (by exact h)] at hm; cases hm
            exact HNO.out m this hm
          have HBF := Lib.hid hBf
          clear HB HNO hBf
          go_wp2_with fail
          go_ret
          exact ⟨by rw [HBF.out]; rfl, by ((repeat' (first | (with_reducible exact Below.refl _ _) | (with_reducible assumption) | (with_reducible refine Below.setCell ?_ ?_ _) | (with_reducible refine Below.alloc ?_ ?_ _) | (with_reducible refine Below.drew ?_) | (with_reducible refine below_drewN ?_ _) | (with_reducible refine Below.step (by with_reducible assumption) ?_ ?_))) <;> (first | omega | (simp; done) | (simp; omega)))⟩
theorem has_any (k : Int) (c : Nat) (w : World) (h1 : c < 1099511627776) (hk : (widthK k).isSome = true) : Calls Tryz.prog 183 #[.int .i64 k, .int .i64 (c : Int)] w (RetB (.bool (hasK k c)) w) := by
  rcases kinds k with (rfl | rfl | rfl | rfl | rfl | rfl | rfl) | ⟨n1, n2, n3, n4, n5, n6, n7⟩
  · exact has_oct 12 c w h1 (.inl rfl)
  · exact has_oct 28 c w h1 (.inr rfl)
  · exact has_30 c w h1
  · exact has_19 c w
  · exact has_20 c w
  · exact has_22 c w
  · exact has_26 c w
  · unfold widthK at hk
    rw [if_neg n1, if_neg (by omega), if_neg n2, if_neg n3] at hk
    cases hk
end Go.Proofs.YtlmnmgokfnnbbaaGreatDoor
end
