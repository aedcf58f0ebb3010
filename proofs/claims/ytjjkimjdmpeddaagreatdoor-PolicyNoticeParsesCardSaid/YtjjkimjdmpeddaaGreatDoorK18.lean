/- The parts RefS of one proof, one behind the other. -/
import Derived.Test.YtjjkimjdmpeddaaGreatDoorK17
import Derived.Test.YtjjkimjdmpeddaaGreatDoorK15
import Derived.LoopTactic

/- Walks over the reference's layer 7 (charset): Octets, Points. -/
section
set_option linter.unusedSimpArgs false
set_option linter.unusedVariables false
namespace Go.Proofs.YtjjkimjdmpeddaaGreatDoor
open Go.RowKit Go.Cr
set_option maxRecDepth 100000 in
set_option maxHeartbeats 4000000 in
theorem octets_no (c : Nat) (w : World) (h1 : c < 1099511627776) (hk : okc c = false) : Calls Tryz.prog 128 #[.int .i64 (c : Int)] w (RetO 5 [] w) := by
  have hc : (1114111 < (c : Int)) ∨ (55296 ≤ (c : Int) ∧ (c : Int) < 57344) := by
    rcases Classical.em (okc c = true) with h | h
    · rw [hk] at h; cases h
    · rw [okc_iff] at h; omega
  clear hk
  rcases hc with h | ⟨h2, h3⟩
  · go_enter Tryz.func128, Tryz.ntmps128
    go_wp2_with fail
    go_ret
    exact ⟨_, rfl, OwB.nil_ _ _ _, by ((repeat' (first | (with_reducible exact Below.refl _ _) | (with_reducible assumption) | (with_reducible refine Below.setCell ?_ ?_ _) | (with_reducible refine Below.alloc ?_ ?_ _) | (with_reducible refine Below.drew ?_) | (with_reducible refine below_drewN ?_ _) | (with_reducible refine Below.step (by with_reducible assumption) ?_ ?_))) <;> (first | omega | (simp; done) | (simp; omega)))⟩
  · have h4 : (c : Int) ≤ 1114111 := by omega
    go_enter Tryz.func128, Tryz.ntmps128
    go_wp2_with fail
    go_ret
    exact ⟨_, rfl, OwB.nil_ _ _ _, by ((repeat' (first | (with_reducible exact Below.refl _ _) | (with_reducible assumption) | (with_reducible refine Below.setCell ?_ ?_ _) | (with_reducible refine Below.alloc ?_ ?_ _) | (with_reducible refine Below.drew ?_) | (with_reducible refine below_drewN ?_ _) | (with_reducible refine Below.step (by with_reducible assumption) ?_ ?_))) <;> (first | omega | (simp; done) | (simp; omega)))⟩
theorem u8bi (x : Nat) : bi (UInt8.ofNat x) = ((x : Int) % 256) := by rw [bi_ofNat]; omega
set_option maxRecDepth 100000 in
set_option maxHeartbeats 4000000 in
theorem octets_1 (c : Nat) (w : World) (h : c ≤ 127) : Calls Tryz.prog 128 #[.int .i64 (c : Int)] w (RetO 5 (enc1 c) w) := by
  have hbc : ∃ b : List UInt8, enc1 c = b ∧ b.length = 1 ∧ bCells b = [.int .u8 ((c : Int))] := by
    refine ⟨_, enc1_one h, rfl, ?_⟩
    have z0 : bi (UInt8.ofNat (c)) = (c : Int) := by rw [u8bi]; omega
    simp only [bCells, List.map_cons, List.map_nil, z0]
  obtain ⟨b, hb1, hb2, hb3⟩ := hbc
  rw [hb1]
  have H2 := Lib.hid hb2
  have H3 := Lib.hid hb3
  obtain ⟨d, hd⟩ : ∃ d : Int, (c : Int) = d := ⟨_, rfl⟩
  simp only [hd] at H3 ⊢
  have k1 : d < 128 := by omega
  have k0 : 0 ≤ d := by omega
  clear h
  clear hb1 hb2 hb3 hd
  go_enter Tryz.func128, Tryz.ntmps128
  go_wp2_with fail
  go_ret
  have hr := World.ownsRow_lit (base := w.heap.size) (e := 5) (size := 1) w #[.int .u8 (d)] 1 (Nat.le_refl _) (by decide) rfl
  refine ⟨_, rfl, ?_, (Below.refl _ _).alloc (Nat.le_refl _) _⟩
  unfold OwB
  rw [H2.out, H3.out]
  exact hr
set_option maxRecDepth 100000 in
set_option maxHeartbeats 4000000 in
theorem octets_2 (c : Nat) (w : World) (h0 : 128 ≤ c) (h : c ≤ 2047) : Calls Tryz.prog 128 #[.int .i64 (c : Int)] w (RetO 5 (enc1 c) w) := by
  have hbc : ∃ b : List UInt8, enc1 c = b ∧ b.length = 2 ∧ bCells b = [.int .u8 (192 + (c : Int) / 64), .int .u8 (128 + (c : Int) % 64)] := by
    refine ⟨_, enc1_two h0 h, rfl, ?_⟩
    have z0 : bi (UInt8.ofNat (192 + c / 64)) = 192 + (c : Int) / 64 := by rw [u8bi]; omega
    have z1 : bi (UInt8.ofNat (128 + c % 64)) = 128 + (c : Int) % 64 := by rw [u8bi]; omega
    simp only [bCells, List.map_cons, List.map_nil, z0, z1]
  obtain ⟨b, hb1, hb2, hb3⟩ := hbc
  rw [hb1]
  have H2 := Lib.hid hb2
  have H3 := Lib.hid hb3
  obtain ⟨d, hd⟩ : ∃ d : Int, (c : Int) = d := ⟨_, rfl⟩
  simp only [hd] at H3 ⊢
  have k1 : 128 ≤ d := by omega
  have k2 : d < 2048 := by omega
  clear h0 h
  clear hb1 hb2 hb3 hd
  go_enter Tryz.func128, Tryz.ntmps128
  go_wp2_with fail
  go_ret
  have hr := World.ownsRow_lit (base := w.heap.size) (e := 5) (size := 1) w #[.int .u8 (192 + d / 64), .int .u8 (128 + d % 64)] 2 (Nat.le_refl _) (by decide) rfl
  refine ⟨_, rfl, ?_, (Below.refl _ _).alloc (Nat.le_refl _) _⟩
  unfold OwB
  rw [H2.out, H3.out]
  exact hr
set_option maxRecDepth 100000 in
set_option maxHeartbeats 4000000 in
theorem octets_3a (c : Nat) (w : World) (h0 : 2048 ≤ c) (h : c < 55296) : Calls Tryz.prog 128 #[.int .i64 (c : Int)] w (RetO 5 (enc1 c) w) := by
  have hbc : ∃ b : List UInt8, enc1 c = b ∧ b.length = 3 ∧ bCells b = [.int .u8 (224 + (c : Int) / 4096), .int .u8 (128 + (c : Int) / 64 % 64), .int .u8 (128 + (c : Int) % 64)] := by
    refine ⟨_, enc1_three h0 (by omega) (.inl h), rfl, ?_⟩
    have z0 : bi (UInt8.ofNat (224 + c / 4096)) = 224 + (c : Int) / 4096 := by rw [u8bi]; omega
    have z1 : bi (UInt8.ofNat (128 + c / 64 % 64)) = 128 + (c : Int) / 64 % 64 := by rw [u8bi]; omega
    have z2 : bi (UInt8.ofNat (128 + c % 64)) = 128 + (c : Int) % 64 := by rw [u8bi]; omega
    simp only [bCells, List.map_cons, List.map_nil, z0, z1, z2]
  obtain ⟨b, hb1, hb2, hb3⟩ := hbc
  rw [hb1]
  have H2 := Lib.hid hb2
  have H3 := Lib.hid hb3
  obtain ⟨d, hd⟩ : ∃ d : Int, (c : Int) = d := ⟨_, rfl⟩
  simp only [hd] at H3 ⊢
  have k1 : 2048 ≤ d := by omega
  have k2 : d < 55296 := by omega
  clear h0 h
  clear hb1 hb2 hb3 hd
  go_enter Tryz.func128, Tryz.ntmps128
  go_wp2_with fail
  go_ret
  have hr := World.ownsRow_lit (base := w.heap.size) (e := 5) (size := 1) w #[.int .u8 (224 + d / 4096), .int .u8 (128 + d / 64 % 64), .int .u8 (128 + d % 64)] 3 (Nat.le_refl _) (by decide) rfl
  refine ⟨_, rfl, ?_, (Below.refl _ _).alloc (Nat.le_refl _) _⟩
  unfold OwB
  rw [H2.out, H3.out]
  exact hr
set_option maxRecDepth 100000 in
set_option maxHeartbeats 4000000 in
theorem octets_3b (c : Nat) (w : World) (h0 : 57344 ≤ c) (h : c ≤ 65535) : Calls Tryz.prog 128 #[.int .i64 (c : Int)] w (RetO 5 (enc1 c) w) := by
  have hbc : ∃ b : List UInt8, enc1 c = b ∧ b.length = 3 ∧ bCells b = [.int .u8 (224 + (c : Int) / 4096), .int .u8 (128 + (c : Int) / 64 % 64), .int .u8 (128 + (c : Int) % 64)] := by
    refine ⟨_, enc1_three (by omega) h (.inr h0), rfl, ?_⟩
    have z0 : bi (UInt8.ofNat (224 + c / 4096)) = 224 + (c : Int) / 4096 := by rw [u8bi]; omega
    have z1 : bi (UInt8.ofNat (128 + c / 64 % 64)) = 128 + (c : Int) / 64 % 64 := by rw [u8bi]; omega
    have z2 : bi (UInt8.ofNat (128 + c % 64)) = 128 + (c : Int) % 64 := by rw [u8bi]; omega
    simp only [bCells, List.map_cons, List.map_nil, z0, z1, z2]
  obtain ⟨b, hb1, hb2, hb3⟩ := hbc
  rw [hb1]
  have H2 := Lib.hid hb2
  have H3 := Lib.hid hb3
  obtain ⟨d, hd⟩ : ∃ d : Int, (c : Int) = d := ⟨_, rfl⟩
  simp only [hd] at H3 ⊢
  have k1 : 57344 ≤ d := by omega
  have k2 : d < 65536 := by omega
  clear h0 h
  clear hb1 hb2 hb3 hd
  go_enter Tryz.func128, Tryz.ntmps128
  go_wp2_with fail
  go_ret
  have hr := World.ownsRow_lit (base := w.heap.size) (e := 5) (size := 1) w #[.int .u8 (224 + d / 4096), .int .u8 (128 + d / 64 % 64), .int .u8 (128 + d % 64)] 3 (Nat.le_refl _) (by decide) rfl
  refine ⟨_, rfl, ?_, (Below.refl _ _).alloc (Nat.le_refl _) _⟩
  unfold OwB
  rw [H2.out, H3.out]
  exact hr
set_option maxRecDepth 100000 in
set_option maxHeartbeats 4000000 in
theorem octets_4 (c : Nat) (w : World) (h0 : 65536 ≤ c) (h : c ≤ 1114111) : Calls Tryz.prog 128 #[.int .i64 (c : Int)] w (RetO 5 (enc1 c) w) := by
  have hbc : ∃ b : List UInt8, enc1 c = b ∧ b.length = 4 ∧ bCells b = [.int .u8 (240 + (c : Int) / 262144), .int .u8 (128 + (c : Int) / 4096 % 64), .int .u8 (128 + (c : Int) / 64 % 64), .int .u8 (128 + (c : Int) % 64)] := by
    refine ⟨_, enc1_four h0 h, rfl, ?_⟩
    have z0 : bi (UInt8.ofNat (240 + c / 262144)) = 240 + (c : Int) / 262144 := by rw [u8bi]; omega
    have z1 : bi (UInt8.ofNat (128 + c / 4096 % 64)) = 128 + (c : Int) / 4096 % 64 := by rw [u8bi]; omega
    have z2 : bi (UInt8.ofNat (128 + c / 64 % 64)) = 128 + (c : Int) / 64 % 64 := by rw [u8bi]; omega
    have z3 : bi (UInt8.ofNat (128 + c % 64)) = 128 + (c : Int) % 64 := by rw [u8bi]; omega
    simp only [bCells, List.map_cons, List.map_nil, z0, z1, z2, z3]
  obtain ⟨b, hb1, hb2, hb3⟩ := hbc
  rw [hb1]
  have H2 := Lib.hid hb2
  have H3 := Lib.hid hb3
  obtain ⟨d, hd⟩ : ∃ d : Int, (c : Int) = d := ⟨_, rfl⟩
  simp only [hd] at H3 ⊢
  have k1 : 65536 ≤ d := by omega
  have k2 : d ≤ 1114111 := by omega
  clear h0 h
  clear hb1 hb2 hb3 hd
  go_enter Tryz.func128, Tryz.ntmps128
  go_wp2_with fail
  go_ret
  have hr := World.ownsRow_lit (base := w.heap.size) (e := 5) (size := 1) w #[.int .u8 (240 + d / 262144), .int .u8 (128 + d / 4096 % 64), .int .u8 (128 + d / 64 % 64), .int .u8 (128 + d % 64)] 4 (Nat.le_refl _) (by decide) rfl
  refine ⟨_, rfl, ?_, (Below.refl _ _).alloc (Nat.le_refl _) _⟩
  unfold OwB
  rw [H2.out, H3.out]
  exact hr
theorem octets_yes (c : Nat) (w : World) (hk : okc c = true) : Calls Tryz.prog 128 #[.int .i64 (c : Int)] w (RetO 5 (enc1 c) w) := by
  rcases enc_cases hk with h | ⟨h0, h⟩ | ⟨h0, h, hs⟩ | ⟨h0, h⟩
  · exact octets_1 c w h
  · exact octets_2 c w h0 h
  · rcases hs with hs | hs
    · exact octets_3a c w h0 hs
    · exact octets_3b c w hs h
  · exact octets_4 c w h0 h
theorem octets_any (c : Nat) (w : World) (h1 : c < 1099511627776) : Calls Tryz.prog 128 #[.int .i64 (c : Int)] w (RetO 5 (octsR (c : Int)) w) := by
  cases hk : okc (c : Int) with
  | true => rw [octsR_ok hk]; exact octets_yes c w hk
  | false => rw [show octsR (c : Int) = [] by unfold octsR; rw [hk]; rfl]; exact octets_no c w h1 hk

/-! ### Points -/
theorem ulInts : Tryz.prog.underlying 152 = some (.slice 3) := by kernel_rfl
theorem infoInt : (Tryz.prog.info? 3).map (fun i => (i.zero, i.size, i.bytes)) = some (some (.int .i64 0), 1, 8) := by kernel_rfl
def RetPt (o : Option (List Nat)) (w : World) (e : Ending) (w' : World) : Prop := Below w.heap.size w w' ∧ ((o = none ∧ e = .returned (.tuple #[.slice none 0 0, .bool false])) ∨ ∃ cs v, o = some cs ∧ e = .returned (.tuple #[v, .bool true]) ∧ IsU .i64 w' v cs)
def PtRel (l : List UInt8) (r : Option (List Nat)) (w : World) (out ix : Value) (wr : World) : Prop :=
  ∃ (i : Nat) (pre : List Nat), ix = .int .i64 i ∧ i ≤ l.length ∧ pre.length ≤ i ∧ (pts (l.drop i)).map (fun t => pre ++ t) = r ∧ wr.ownsRow w.heap.size 3 1 out pre.length (uCells .i64 pre) ∧ Below w.heap.size w wr
def PiRel (l : List UInt8) (i n : Nat) (r : Option Nat) (xx kk : Value) : Prop := ∃ k x : Nat, kk = .int .i64 k ∧ xx = .int .i64 x ∧ 1 ≤ k ∧ k ≤ n + 1 ∧ x < 128 * 64 ^ (k - 1) ∧ contR x ((l.drop (i + k)).take (n + 1 - k)) = r
theorem p64 {k : Nat} (h : k ≤ 4) : 128 * 64 ^ (k - 1) ≤ 33554432 := by
  have : (64 : Nat) ^ (k - 1) ≤ 64 ^ 3 := Nat.pow_le_pow_right (by decide) (by omega)
  have e : (64 : Nat) ^ 3 = 262144 := by decide
  omega
theorem headR_drop (l : List UInt8) (i : Nat) : headR (l.drop i) = match leadR (l.getD i 0).toNat with
  | none => none
  | some (n, x) => if l.length ≤ i + n then none else match contR x ((l.drop (i + 1)).take n) with
    | none => none
    | some c => if octsR c = (l.drop i).take (n + 1) then some (c, n) else none := by
  have h0 : (l.drop i).getD 0 0 = l.getD i 0 := by simp
  unfold headR
  rw [h0]
  cases leadR (l.getD i 0).toNat with
  | none => rfl
  | some p =>
    obtain ⟨n, x⟩ := p
    simp only [List.length_drop, List.drop_drop]
    by_cases h : l.length ≤ i + n
    · rw [if_pos h, if_pos (by omega)]
    · rw [if_neg h, if_neg (by omega)]
      cases contR x ((l.drop (i + 1)).take n) <;> rfl
theorem cut_str {s : ByteArray} {l : List UInt8} (hl : s.data.toList = l) (i n : Nat) (e : Int) (he : e = (i : Int) + n + 1) (h : i + n < s.size) : ∃ p : ByteArray, p.data.toList = (l.drop i).take (n + 1) ∧ ∀ W, (Instr.slice 9 (.string s) (some (.int .i64 (i : Int))) (some (.int .i64 e)) none).run Tryz.prog W = .ok (.string p) W := by
  subst he
  refine ⟨s.extract i (i + n + 1), ?_, fun W => ?_⟩
  · rw [Lib.extract_data, hl, show i + n + 1 - i = n + 1 by omega]
  · rw [run_slice_string W 9 _ .i64 .i64 _ _ ulS (by omega) (by omega) (by omega)]
    rw [show ((i : Int)).toNat = i by omega, show ((i : Int) + n + 1).toNat = i + n + 1 by omega]

end Go.Proofs.YtjjkimjdmpeddaaGreatDoor
end
