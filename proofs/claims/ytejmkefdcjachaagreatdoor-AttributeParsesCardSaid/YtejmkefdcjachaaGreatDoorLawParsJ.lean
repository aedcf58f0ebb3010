/- AttributeParses: any bytes are parsed exactly if they are the encoding of a valid attribute, and as this one; it is marshalled as the same bytes. No condition beyond the row's own. -/
import Derived.Test.YtejmkefdcjachaaGreatDoorJ41
import Derived.Test.YtejmkefdcjachaaGreatDoorJ42
import Derived.Test.YtejmkefdcjachaaGreatDoorTie
import Derived.Test.YtejmkefdcjachaaGreatDoorCards
import Derived.Deep.RegionHeld3
import Derived.SevenTiedAt
import Derived.JoinedCond
set_option linter.unusedSimpArgs false
set_option linter.unusedVariables false
namespace Go.Proofs.YtejmkefdcjachaaGreatDoor.ParsDone
open Go.RowKit Go.Cr Go.ChangeShapes Go.WideShapes Go.ChangeAt Go.Lib

set_option maxRecDepth 100000 in
set_option maxHeartbeats 4000000 in
theorem within_ok (n : Int) (w : World) : Calls Tryz.prog 32 #[.agg #[.int .i64 0, .int .i64 0], .int .i64 n] w (RetB (.bool true) w) := by
  go_enter Tryz.func32, Tryz.ntmps32
  go_wp2_with fail
  go_ret
  exact ⟨rfl, by ((repeat' (first | (with_reducible exact Below.refl _ _) | (with_reducible assumption) | (with_reducible refine Below.setCell ?_ ?_ _) | (with_reducible refine Below.alloc ?_ ?_ _) | (with_reducible refine Below.drew ?_) | (with_reducible refine below_drewN ?_ _) | (with_reducible refine Below.step (by with_reducible assumption) ?_ ?_))) <;> (first | omega | (simp; done) | (simp; omega)))⟩
set_option maxRecDepth 100000 in
set_option maxHeartbeats 4000000 in
theorem within_err (c o n : Int) (w : World) (hc : 0 < c) (h0 : 0 ≤ o) (hn : o ≤ n) : Calls Tryz.prog 32 #[.agg #[.int .i64 c, .int .i64 o], .int .i64 n] w (RetB (.bool true) w) := by
  have hc0 : ¬ (c = 0) := by omega
  go_enter Tryz.func32, Tryz.ntmps32
  go_wp2_with fail
  go_ret
  exact ⟨rfl, by ((repeat' (first | (with_reducible exact Below.refl _ _) | (with_reducible assumption) | (with_reducible refine Below.setCell ?_ ?_ _) | (with_reducible refine Below.alloc ?_ ?_ _) | (with_reducible refine Below.drew ?_) | (with_reducible refine below_drewN ?_ _) | (with_reducible refine Below.step (by with_reducible assumption) ?_ ?_))) <;> (first | omega | (simp; done) | (simp; omega)))⟩
structure SP (w : World) (v : Value) (b : List UInt8) (s : ByteArray) (l : List UInt8) (A A' : Option Addr) (k k' : Nat) (c o : Int) (g g' : Nat) (W : World) : Prop where
  glo : Glo W
  iv : IsB W v b
  ia : IsB W (.slice A l.length k) l
  ir : IsB W (.slice A' l.length k') l
  k3 : Blk W g 37 #[.string s, .slice A l.length k]
  k4 : Blk W (g + 1) 41 #[.int .i64 c, .int .i64 o]
  k5 : Blk W g' 37 #[.string s, .slice A' l.length k']
  bel : Below w.heap.size w W
theorem SP.call {w : World} {v : Value} {b : List UInt8} {s : ByteArray} {l : List UInt8} {A A' : Option Addr} {k k' : Nat} {c o : Int} {g g' : Nat} {W W' : World} (h : SP w v b s l A A' k k' c o g g' W) (hb : Below W.heap.size W W') : SP w v b s l A A' k k' c o g g' W' :=
  ⟨h.glo.below hb, h.iv.below hb, h.ia.below hb, h.ir.below hb, h.k3.call hb, h.k4.call hb, h.k5.call hb, h.bel.trans (hb.mono h.bel.size)⟩
theorem SP.drew {w : World} {v : Value} {b : List UInt8} {s : ByteArray} {l : List UInt8} {A A' : Option Addr} {k k' : Nat} {c o : Int} {g g' : Nat} {W : World} (h : SP w v b s l A A' k k' c o g g' W) : SP w v b s l A A' k k' c o g g' W.drew := h.call (Below.refl _ _).drew
theorem SP.all {w : World} {v : Value} {b : List UInt8} {s : ByteArray} {l : List UInt8} {A A' : Option Addr} {k k' : Nat} {c o : Int} {g g' : Nat} {W : World} (h : SP w v b s l A A' k k' c o g g' W) : SP w v b s l A A' k k' c o g g' W ∧ W.cell? ⟨g, 0, none⟩ = some (.string s) ∧ W.cell? ⟨g, 1, none⟩ = some (.slice A l.length k) ∧ W.cell? ⟨g + 1, 0, none⟩ = some (.int .i64 c) ∧ W.cell? ⟨g + 1, 1, none⟩ = some (.int .i64 o) ∧ W.cell? ⟨g', 0, none⟩ = some (.string s) ∧ W.cell? ⟨g', 1, none⟩ = some (.slice A' l.length k') := ⟨h, h.k3.q 0, h.k3.q 1, h.k4.q 0, h.k4.q 1, h.k5.q 0, h.k5.q 1⟩
theorem SP.old {w2 w3 : World} {s : ByteArray} {l : List UInt8} {A : Option Addr} {k : Nat} {c o : Int} (hb3 : Below ((w2.alloc (.cells #[.string s, .slice A l.length k] 37)).alloc (.cells #[.int .i64 c, .int .i64 o] 41)).heap.size ((w2.alloc (.cells #[.string s, .slice A l.length k] 37)).alloc (.cells #[.int .i64 c, .int .i64 o] 41)) w3) :
    Blk w3 w2.heap.size 37 #[.string s, .slice A l.length k] ∧ Blk w3 (w2.heap.size + 1) 41 #[.int .i64 c, .int .i64 o] ∧ w2.heap.size < w3.heap.size ∧ w2.heap.size + 1 < w3.heap.size := by
  have h : Blk ((w2.alloc (.cells #[.string s, .slice A l.length k] 37)).alloc (.cells #[.int .i64 c, .int .i64 o] 41)) (w2.alloc (.cells #[.string s, .slice A l.length k] 37)).heap.size 41 #[.int .i64 c, .int .i64 o] := Blk.new _ _ _
  rw [show (w2.alloc (.cells #[.string s, .slice A l.length k] 37)).heap.size = w2.heap.size + 1 by simp] at h
  exact ⟨((Blk.new w2 _ _).alloc _).call hb3, h.call hb3, (((Blk.new w2 _ _).alloc _).call hb3).lt, (h.call hb3).lt⟩
theorem SP.make {w w1 w2 w3 : World} {v : Value} {b : List UInt8} {s : ByteArray} {l : List UInt8} {A A' : Option Addr} {k k' : Nat} {c o : Int} (hb1 : Below w.heap.size w w1) (hb2 : Below w1.heap.size w1 w2) (hb3 : Below ((w2.alloc (.cells #[.string s, .slice A l.length k] 37)).alloc (.cells #[.int .i64 c, .int .i64 o] 41)).heap.size ((w2.alloc (.cells #[.string s, .slice A l.length k] 37)).alloc (.cells #[.int .i64 c, .int .i64 o] 41)) w3)
    (hG : Glo w1) (hV : IsB w1 v b) (ia : IsB w2 (.slice A l.length k) l) (ir : IsB w3 (.slice A' l.length k') l) : SP w v b s l A A' k k' c o w2.heap.size w3.heap.size (w3.alloc (.cells #[.string s, .slice A' l.length k'] 37)) := by
  have s1 := hb1.size
  have s2 := hb2.size
  have s3 := hb3.size
  simp at s3
  refine ⟨((((hG.below hb2).alloc _).alloc _).below hb3).alloc _, ((((hV.below hb2).alloc _).alloc _).below hb3).alloc _, (((ia.alloc _).alloc _).below hb3).alloc _, ir.alloc _, (((Blk.new w2 _ _).alloc _).call hb3).alloc _, ?_, Blk.new w3 _ _, ?_⟩
  · have h : Blk ((w2.alloc (.cells #[.string s, .slice A l.length k] 37)).alloc (.cells #[.int .i64 c, .int .i64 o] 41)) (w2.alloc (.cells #[.string s, .slice A l.length k] 37)).heap.size 41 #[.int .i64 c, .int .i64 o] := Blk.new _ _ _
    rw [show (w2.alloc (.cells #[.string s, .slice A l.length k] 37)).heap.size = w2.heap.size + 1 by simp] at h
    exact (h.call hb3).alloc _
  · refine ((((hb1.trans (hb2.mono s1)).alloc (by omega) _).alloc (by simp; omega) _).trans (hb3.mono (by simp; omega))).alloc (by omega) _

set_option maxRecDepth 100000 in
set_option maxHeartbeats 8000000 in
theorem long (v : Value) (b : List UInt8) (w : World) (hv : IsB w v b) (hG : Glo w) (hl : 3000 < b.length) : Calls Tryz.prog 7 #[v] w (RetB (.bool true) w) := by
  have hlen := hv.len ulB
  obtain ⟨A, k, rfl⟩ := isB_slice hv
  have HA : Hid (∀ W, Glo W → Calls Tryz.prog 11 #[] W (RetB (.bool true) W)) := awake_any
  have hl' : (3000 : Int) < b.length := by omega
  have HG := Lib.hid hG
  clear hv hG hl
  go_enter Tryz.func7, Tryz.ntmps7
  go_wp2_with (first | ((go_at_call 11); (with_reducible refine (HA.out _ HG.out).mono ?_); rintro e w1 ⟨rfl, hbw1⟩) | ((go_at_call 11); (with_reducible refine (HA.out _ (HG.out.below hbw1)).mono ?_); rintro e w2 ⟨rfl, hbw2⟩))
  go_ret
  exact ⟨rfl, hbw1.trans (hbw2.mono hbw1.size)⟩

set_option maxRecDepth 100000 in
set_option maxHeartbeats 8000000 in
theorem none_ (v : Value) (b : List UInt8) (w : World) (hv : IsB w v b) (hG : Glo w) (hl : b.length ≤ 3000) (hp : parA b = none) : Calls Tryz.prog 7 #[v] w (RetB (.bool true) w) := by
  have hlen := hv.len ulB
  obtain ⟨A, k, rfl⟩ := isB_slice hv
  have HA : Hid (∀ W, Glo W → Calls Tryz.prog 11 #[] W (RetB (.bool true) W)) := awake_any
  have HP : Hid (∀ W, Glo W → IsB W (.slice A b.length k) b → Calls Tryz.prog 29 #[.slice A b.length k] W (RetPE b.length W)) := fun W g h => by have := attParse _ b W g h (by omega); rwa [hp] at this
  have HR : Hid (∀ W, IsB W (.slice A b.length k) b → Calls Tryz.prog 31 #[.slice A b.length k] W (RetB (.tuple #[.agg #[.string ⟨#[]⟩, .slice none 0 0], .bool false]) W)) := fun W h => by have := rAttParse _ b W h (by omega); rwa [rparA_eq (by omega), hp] at this
  have HQ : Hid (∀ c o g g' W, SP w (.slice A b.length k) b ⟨#[]⟩ [] none none 0 0 c o g g' W → Calls Tryz.prog 30 #[.agg #[.string ⟨#[]⟩, .slice none 0 0], .agg #[.string ⟨#[]⟩, .slice none 0 0]] W (RetB (.bool true) W)) := fun c o g g' W _ => by have := attSame ⟨#[]⟩ ⟨#[]⟩ _ _ [] [] W (isB_nil0 W) (isB_nil0 W); rwa [decide_eq_true ⟨rfl, rfl⟩] at this
  have HW : Hid (∀ c o g g' W, SP w (.slice A b.length k) b ⟨#[]⟩ [] none none 0 0 c o g g' W → 0 < c → 0 ≤ o → o ≤ b.length → Calls Tryz.prog 32 #[.agg #[.int .i64 c, .int .i64 o], .int .i64 b.length] W (RetB (.bool true) W)) := fun c o g g' W _ h1 h2 h3 => within_err c o b.length W h1 h2 h3
  have hl' : (b.length : Int) ≤ 3000 := by omega
  have HG := Lib.hid hG
  have HV := Lib.hid hv
  clear hv hG hl hp
  go_enter Tryz.func7, Tryz.ntmps7
  go_wp2_with (first | ((go_at_call 11); (with_reducible refine (HA.out _ HG.out).mono ?_); rintro e w1 ⟨rfl, hbw1⟩; have HG1 := Lib.hid (HG.out.below hbw1); have HV1 := Lib.hid (HV.out.below hbw1)) | ((go_at_call 29); (with_reducible refine (HP.out _ HG1.out HV1.out).mono ?_); rintro e w2 ⟨hbw2, c, o, hc1, ho0, ho1, rfl⟩; have hc0 : ¬ (c = 0) := by omega) | ((go_at_call 31); (with_reducible refine (HR.out _ (((HV1.out.below hbw2).alloc _).alloc _)).mono ?_); rintro e w3 ⟨rfl, hbw3⟩; have HS3 := Lib.hid (show SP w (.slice A b.length k) b ⟨#[]⟩ [] none none 0 0 c o w2.heap.size w3.heap.size (w3.alloc (.cells #[.string ⟨#[]⟩, .slice none 0 0] 37)) from SP.make (s := ⟨#[]⟩) (l := []) (A := none) (A' := none) (k := 0) (k' := 0) hbw1 hbw2 hbw3 HG1.out HV1.out (isB_nil0 _) (isB_nil0 _)); obtain ⟨K3, K4, K3l, K4l⟩ := SP.old (s := ⟨#[]⟩) (l := []) (A := none) (k := 0) hbw3; have q3 := K3.q; have q4 := K4.q; clear K3 K4) | ((go_at_call 30); (with_reducible refine (HQ.out _ _ _ _ _ HS3.out).mono ?_); rintro e w4 ⟨rfl, hbw4⟩; have HS4 := Lib.hid (HS3.out.call hbw4); obtain ⟨-, d0, d1, d2, d3, d4, d5⟩ := HS4.out.all) | ((go_at_call 32); (with_reducible refine (HW.out _ _ _ _ _ HS4.out hc1 ho0 ho1).mono ?_); rintro e w5 ⟨rfl, hbw5⟩; have HS5 := Lib.hid (HS4.out.call hbw5); obtain ⟨-, e0, e1, e2, e3, e4, e5⟩ := HS5.out.all) | ((go_at_call 30); (with_reducible refine (HQ.out _ _ _ _ _ HS5.out).mono ?_); rintro e w6 ⟨rfl, hbw6⟩; have HS6 := Lib.hid (HS5.out.call hbw6); obtain ⟨-, f0, f1, f2, f3, f4, f5⟩ := HS6.out.all) | ((go_at_call 32); (with_reducible refine (HW.out _ _ _ _ _ HS6.out hc1 ho0 ho1).mono ?_); rintro e w7 ⟨rfl, hbw7⟩; have HS7 := Lib.hid (HS6.out.call hbw7)))
  go_ret
  exact ⟨by simp [hc0], HS7.out.bel⟩

def AtS (S : ByteArray) (l : List UInt8) (x : Value) (w : World) (e : Ending) (w' : World) : Prop := ∃ A k, e = .returned (.tuple #[.agg #[.string S, .slice A l.length k], x]) ∧ OwB w' w.heap.size 5 (.slice A l.length k) l ∧ Below w.heap.size w w'
theorem marA_bnd {b s l : List UInt8} (h : marA s l = some b) (hb : b.length ≤ 3000) : (bStr s).size ≤ 100000 ∧ l.length ≤ 3000 := by
  obtain ⟨o, ho, _, rfl⟩ := marA_some h
  have h1 := oidD_len ((oid_iff _ _).2 ho)
  have h3 := encO_len 0 16 true (encO 0 false 6 o ++ l)
  have h4 := encO_len 0 6 false o
  rw [List.length_append] at h3
  have h5 : (bStr s).size = s.length := rfl
  omega

set_option maxRecDepth 100000 in
set_option maxHeartbeats 8000000 in
theorem some_ (v : Value) (b s l : List UInt8) (w : World) (hv : IsB w v b) (hG : Glo w) (hl : b.length ≤ 3000) (hp : parA b = some (s, l)) : Calls Tryz.prog 7 #[v] w (RetB (.bool true) w) := by
  have hlen := hv.len ulB
  obtain ⟨A, k, rfl⟩ := isB_slice hv
  have hm := parA_mar hp
  obtain ⟨hsz, hll⟩ := marA_bnd hm hl
  have HA : Hid (∀ W, Glo W → Calls Tryz.prog 11 #[] W (RetB (.bool true) W)) := awake_any
  have HP : Hid (∀ W, Glo W → IsB W (.slice A b.length k) b → Calls Tryz.prog 29 #[.slice A b.length k] W (AtS (bStr s) l (.agg #[.int .i64 0, .int .i64 0]) W)) := fun W g h => by have := attParse _ b W g h (by omega); rwa [hp] at this
  have HR : Hid (∀ W, IsB W (.slice A b.length k) b → Calls Tryz.prog 31 #[.slice A b.length k] W (AtS (bStr s) l (.bool true) W)) := fun W h => by have := rAttParse _ b W h (by omega); rwa [rparA_eq (by omega), hp] at this
  have HM : Hid (∀ W x, Glo W → IsB W x l → Calls Tryz.prog 25 #[.agg #[.string (bStr s), x]] W (RetOidY b W)) := fun W x g h => (attMarshal (bStr s) _ l W g h hsz (by omega)).mono fun e w' hh => by rw [bStr_list, hm] at hh; exact hh.yes
  have HV2 : Hid (∀ W x, Glo W → IsB W x l → Calls Tryz.prog 27 #[.agg #[.string (bStr s), x]] W (RetB (.bool true) W)) := fun W x g h => by have := attValid (bStr s) _ l W g h (by omega) (by omega); rwa [bStr_list, hm] at this
  have HB : Hid (∀ W x y, IsB W x b → IsB W y b → Calls Tryz.prog 17 #[x, y] W (RetB (.bool true) W)) := fun W x y h1 h2 => by have := bytes_any x y b b W h1 h2; rwa [decide_eq_true rfl] at this
  have hl' : (b.length : Int) ≤ 3000 := by omega
  generalize bStr s = S at *
  have HQ : Hid (∀ A2 A3 k2 k3 c o g g' W, SP w (.slice A b.length k) b S l A2 A3 k2 k3 c o g g' W → Calls Tryz.prog 30 #[.agg #[.string S, .slice A2 l.length k2], .agg #[.string S, .slice A3 l.length k3]] W (RetB (.bool true) W)) := fun A2 A3 k2 k3 c o g g' W h => by have := attSame S S _ _ l l W h.ia h.ir; rwa [decide_eq_true ⟨rfl, rfl⟩] at this
  have HW : Hid (∀ W, Calls Tryz.prog 32 #[.agg #[.int .i64 0, .int .i64 0], .int .i64 b.length] W (RetB (.bool true) W)) := fun W => within_ok b.length W
  have HG := Lib.hid hG
  have HV := Lib.hid hv
  clear hv hG hl hp hm hsz hll
  go_enter Tryz.func7, Tryz.ntmps7
  go_wp2_with (first | ((go_at_call 11); (with_reducible refine (HA.out _ HG.out).mono ?_); rintro e w1 ⟨rfl, hbw1⟩; have HG1 := Lib.hid (HG.out.below hbw1); have HV1 := Lib.hid (HV.out.below hbw1)) | ((go_at_call 29); (with_reducible refine (HP.out _ HG1.out HV1.out).mono ?_); rintro e w2 ⟨A2, k2, rfl, ho2, hbw2⟩; have HI2 := Lib.hid ho2.isB; clear ho2) | ((go_at_call 31); (with_reducible refine (HR.out _ (((HV1.out.below hbw2).alloc _).alloc _)).mono ?_); rintro e w3 ⟨A3, k3, rfl, ho3, hbw3⟩; have HI3 := Lib.hid ho3.isB; clear ho3; have HS3 := Lib.hid (SP.make (s := S) (l := l) (A := A2) (A' := A3) (k := k2) (k' := k3) hbw1 hbw2 hbw3 HG1.out HV1.out HI2.out HI3.out); obtain ⟨K3, K4, K3l, K4l⟩ := SP.old (s := S) (l := l) (A := A2) (k := k2) hbw3; have q3 := K3.q; have q4 := K4.q; clear K3 K4) | ((go_at_call 30); (with_reducible refine (HQ.out _ _ _ _ _ _ _ _ _ HS3.out).mono ?_); rintro e w4 ⟨rfl, hbw4⟩; have HS4 := Lib.hid (HS3.out.call hbw4); obtain ⟨-, d0, d1, d2, d3, d4, d5⟩ := HS4.out.all) | ((go_at_call 32); (with_reducible refine (HW.out _).mono ?_); rintro e w5 ⟨rfl, hbw5⟩; have HS5 := Lib.hid (HS4.out.call hbw5); obtain ⟨-, e0, e1, e2, e3, e4, e5⟩ := HS5.out.all) | ((go_at_call 25); (with_reducible refine (HM.out _ _ HS5.out.glo HS5.out.ia).mono ?_); rintro e w6 ⟨v6, rfl, ho6, hbw6⟩; obtain ⟨A6, k6, rfl⟩ := isB_slice ho6.isB; have HI6 := Lib.hid ho6.isB; clear ho6; have HS6 := Lib.hid (HS5.out.call hbw6); obtain ⟨-, f0, f1, f2, f3, f4, f5⟩ := HS6.out.all) | ((go_at_call 27); (with_reducible refine (HV2.out _ _ HS6.out.glo HS6.out.ia).mono ?_); rintro e w7 ⟨rfl, hbw7⟩; have HS7 := Lib.hid (HS6.out.call hbw7); have HI7 := Lib.hid (HI6.out.below hbw7)) | ((go_at_call 17); (with_reducible refine (HB.out _ _ _ HI7.out HS7.out.iv).mono ?_); rintro e w8 ⟨rfl, hbw8⟩; have HS8 := Lib.hid (HS7.out.call hbw8)))
  go_ret
  exact ⟨rfl, HS8.out.bel⟩

theorem walk (v : Value) (b : List UInt8) (w : World) (hv : IsB w v b) (hG : Glo w) : Calls Tryz.prog 7 #[v] w (RetB (.bool true) w) := by
  by_cases hl : b.length ≤ 3000
  · cases hp : parA b with
    | none => exact none_ v b w hv hG hl hp
    | some x => exact some_ v b x.1 x.2 w hv hG hl hp
  · exact long v b w hv hG (by omega)

theorem witness_row (os : Os) {H : Type} (enc : TypeId × Value → H) :
    (OpenSpec.ofChange Rows.attributeParsesSpec).preRow enc Tryz.prog Tryz.f7 Rows.attributeParsesRow.domain false Rows.attributeParsesRow.laid ((laidW os).forCall (fun _ _ => 0) ⟨#[], #[.slice none 0 0], []⟩).memory #[.slice none 0 0] := by
  have hw : (DataW.whole enc Tryz.prog ((laidW os).forCall (fun _ _ => 0) ⟨#[], #[.slice none 0 0], []⟩).memory Tryz.f7.params.toList (OpenSpec.ofChange Rows.attributeParsesSpec).vars false #[(.slice none 0 0 : Value)].toList 8).map (fun x => (x.1, x.2.1)) =
      some ([.nil], []) := by kernel_rfl
  obtain ⟨⟨x1, x2, x3⟩, hx, hx1⟩ := Option.map_eq_some_iff.1 hw
  simp only [Prod.mk.injEq] at hx1
  obtain ⟨rfl, rfl⟩ := hx1
  exact OpenSpec.preRow_of_cond 8 hx (by kernel_rfl) (fun k hk => by cases hk) (by kernel_rfl) (laidW_met os _)

set_option maxRecDepth 100000 in
set_option maxHeartbeats 2000000 in
theorem lifted (os : Os) (started : os.Started) (H : Type) (enc : TypeId × Value → H) (F : Stop.Interp) :
    ReturnsInHanded {} Tryz.checked os 7 .any ((OpenSpec.ofChange Rows.attributeParsesSpec).preRow enc Tryz.prog Tryz.f7 Rows.attributeParsesRow.domain false Rows.attributeParsesRow.laid) (((OpenSpec.ofChange Rows.attributeParsesSpec).at F).post enc Tryz.prog Tryz.f7 false true false false) := by
  refine returnsInHanded_of_row (C := Tryz.checked) (s := OpenSpec.ofChange Rows.attributeParsesSpec) lw_own started (by kernel_rfl) Tryz.func7
    (witness_laid #[.slice none 0 0] (by kernel_rfl) (witness_row os enc)) ?_
  intro W base args ds gs before hval0 hW hcnd _ hz0 hL hsh _
  have hG : Glo W := glo_of W hL hsh
  have hval : ∀ (j : Nat) t v, Tryz.f7.params[j]? = some t → args[j]? = some v → Value.okWide Tryz.prog W .any base t v := hval0
  have hW' := hW
  obtain ⟨p, q, hA0, hV, rfl, hfz, hnd⟩ := hW
  have hA : DataW.TrodAll enc Tryz.prog W 0 (fun _ => true) true Tryz.f7.params.toList args.toList ds p := hA0
  rw [Tryz.params7] at hA hval
  obtain ⟨v0, vs0, d0, ds0, p0, q0, hargs, rfl, rfl, h0, r0⟩ := trodAll_cons hA
  obtain ⟨rfl, rfl, rfl⟩ := trodAll_nil r0
  obtain rfl : args = #[v0] := by cases args; simp_all
  obtain ⟨rfl, rfl⟩ := trodVars_none hV
  have lt0 : ∀ x ∈ p0, x.block < W.heap.size := by obtain ⟨m, hm⟩ := h0; exact DataW.trod_lt m _ _ _ hm
  obtain ⟨l0, w0⟩ := open_bytes (hval 0 22 v0 rfl rfl) h0
  clear hA0 hval0
  refine (walk _ l0 W w0 hG).mono fun e W' ⟨he, bel⟩ => ?_
  subst he
  exact ⟨_, rfl, _, _, _, [], _, [], hW', trodAll_mk1 (shut_bool (by kernel_rfl : Tryz.prog.underlying 4 = some .bool) _), (trodAll_cons_mk (Below.trod lw_laidOut (by kernel_rfl) (of_decide_eq_true (by kernel_rfl)) h0 bel lt0) trodAll_mk0), rfl, bel.frame _, fun h => by cases h⟩

theorem holds : Rows.AttributeParsesSaid :=
  OpenClaim.holds_of_cond 7 Tryz.f7 rfl rfl rfl rfl rfl rfl rfl ⟨rfl, rfl, rfl, rfl, rfl⟩ rfl rfl rfl rfl rfl (by kernel_rfl) Tryz.func7 (by kernel_rfl)
    (of_decide_eq_true (by kernel_rfl)) (by unfold Func.isWrapper; first | (rw [if_pos (by decide +kernel)]; kernel_rfl) | (rw [if_neg (by decide +kernel)]; exact ⟨rfl, rfl⟩))
    (fun os started H enc _ F0 => by rw [OpenClaim.pre_eq_preRow]; exact lifted os started H enc F0)

theorem proved : Rows.AttributeParsesCardSaid :=
  Claim7.holds_tied_plain_at .later [] [.data, .data, .data, .data, .sentinel, .sentinel, .pinned] true (true, "a669af08838cfad0aa38966214e8cb1e037c880dbfa1422bd235b91a679aa7b7") true holds (fun _ h => by cases h) (by kernel_rfl) (fun _ h => by cases h) attributeParses_row_tie rfl ⟨rfl, rfl⟩ (by kernel_rfl) rfl
    (fun f fn hf hfn => by
      obtain rfl : f = 7 := Option.some.inj ((show Tryz.prog.funcNamed "cretula/cretulalaw11.AttributeParses" = some 7 by kernel_rfl).symm.trans hf) |>.symm
      obtain rfl : fn = Tryz.f7 := (Option.some.inj (Tryz.func7.symm.trans hfn)).symm
      exact ⟨by kernel_rfl, fun j t ht => by
        rw [Tryz.params7] at ht
        have hm : t ∈ [22] := by simpa using Array.mem_of_getElem? ht
        have hall : ([22].all fun u => !Tryz.prog.wantsStandIn u) = true := by kernel_rfl
        exact (show Tryz.prog.wantsStandIn t = false by simpa using List.all_eq_true.1 hall t hm)⟩)
    (by kernel_rfl)
#print axioms proved
end Go.Proofs.YtejmkefdcjachaaGreatDoor.ParsDone
