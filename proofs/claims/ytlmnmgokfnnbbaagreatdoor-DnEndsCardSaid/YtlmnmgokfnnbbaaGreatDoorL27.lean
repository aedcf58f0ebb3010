/- The parts Deep, NodeB, Ord, BelT, OrdB of one proof, one behind the other. -/
import Derived.Test.YtlmnmgokfnnbbaaGreatDoorL08
import Derived.Test.YtlmnmgokfnnbbaaGreatDoorL02
import Derived.BigQuiet

/- The reference's Read, Within, Parse, Deep, Open. -/
section
set_option linter.unusedSimpArgs false
set_option linter.unusedVariables false
namespace Go.Proofs.YtlmnmgokfnnbbaaGreatDoor
open Go.RowKit Go.Cr
theorem rRead_any (d : Nat) : d ≤ 60 → ∀ (v : Value) (l : List UInt8) (w : World), IsB w v l → l.length ≤ 1000000 →
    Calls Tryz.prog 132 #[v, .int .i64 d] w (RetNd (readT d l) d l w) := by
  induction d with
  | zero =>
    intro _ v l w hw hL
    exact rRead_zero v l.length w
  | succ d ih =>
    intro hd v l w hw hL
    rw [show (((d + 1 : Nat)) : Int) = (d : Int) + 1 by omega]
    cases hr : nextH l with
    | error er =>
      obtain ⟨ec, eo⟩ := er
      rw [readT_err hr]
      exact rRead_err d v l w ec eo hw hL (by omega) hr
    | ok h =>
      obtain ⟨hc, hnm, hcn, hln, hsz⟩ := h
      cases hcn with
      | false =>
        rw [readT_prim hr rfl]
        exact rRead_prim d v l w hc hnm hln hsz hw hL (by omega) hr
      | true =>
        rw [readT_con hr rfl]
        have := rRead_con d v l w hc hnm hln hsz hw hL (by omega) hr (fun v' l' W h1 h2 => ih (by omega) v' l' W h1 h2)
        refine this.mono fun e w' h => ?_
        split at h
        · rename_i hf
          rw [if_pos hf]
          exact h
        · rename_i hf
          rw [if_neg hf]
          exact h

theorem node_set {base d : Nat} {w : World} {cs : List Value} {l : List UInt8} (h : IsNode (fun b => base ≤ b) d w cs l) {a : Addr} (ha : a.block < base) (u : Value) : IsNode (fun b => base ≤ b) d (w.setCell a u) cs l :=
  h.keep (by simp) fun b _ hS => Below.heap_setCell _ _ _ _ (by have hS' : base ≤ b := hS; omega)
theorem node_drew {S : Nat → Prop} {d : Nat} {w : World} {cs : List Value} {l : List UInt8} (h : IsNode S d w cs l) : IsNode S d w.drew cs l := h.keep (Nat.le_refl _) fun _ _ _ => rfl
theorem node_alloc {S : Nat → Prop} {d : Nat} {w : World} {cs : List Value} {l : List UInt8} (h : IsNode S d w cs l) (o : Obj) : IsNode S d (w.alloc o) cs l := h.below ((Below.refl _ _).alloc (Nat.le_refl _) o)

def RetWY (d : Nat) (l : List UInt8) (w : World) (e : Ending) (w' : World) : Prop := Below w.heap.size w w' ∧ ∃ (c1 c2 : Int) (c3 : Bool) (a4 a5 : Option Addr) (n4 k4 n5 k5 : Nat),
  e = .returned (.tuple #[.agg #[.int .i64 c1, .int .i64 c2, .bool c3, .slice a4 n4 k4, .slice a5 n5 k5], errV (0, 0)]) ∧
    IsNode (fun b => w.heap.size ≤ b) d w' [.int .i64 c1, .int .i64 c2, .bool c3, .slice a4 n4 k4, .slice a5 n5 k5] l
def RetWN (w : World) (e : Ending) (w' : World) : Prop := Below w.heap.size w w' ∧ ∃ c o : Int, 0 < c ∧ e = .returned (.tuple #[.agg #[.int .i64 0, .int .i64 0, .bool false, .slice none 0 0, .slice none 0 0], errV (c, o)])

set_option maxRecDepth 100000 in
set_option maxHeartbeats 4000000 in
theorem rWithin_yes (d : Nat) (hd : d ≤ 60) (v : Value) (l : List UInt8) (w : World) (hw : IsB w v l) (hL : l.length ≤ 1000000) (ht : treeOK d l) :
    Calls Tryz.prog 99 #[v, .int .i64 d] w (RetWY d l w) := by
  have hlen := hw.len ulB
  have H : Hid (∀ W, IsB W v l → Calls Tryz.prog 132 #[v, .int .i64 d] W (RetNdY d l.length l W)) := by
    intro W hW
    have := rRead_any d hd v l W hW hL
    unfold treeOK at ht
    rwa [ht] at this
  have HB := Lib.hid hw
  have hdd : decide (l.length < l.length) = false := decide_eq_false (by omega)
  have htl : l.take l.length = l := List.take_length
  have HTL := Lib.hid htl
  clear hw ht htl
  go_enter Tryz.func99, Tryz.ntmps99
  go_wp2_with (first | ((go_at_call 132); (with_reducible refine (H.out _ ((HB.out.alloc _).alloc _)).mono ?_); rintro e w1 ⟨hbw1, x1, x2, x3, y4, y5, m4, z4, m5, z5, rfl, hnd⟩; obtain ⟨hcw1, hfw1⟩ := bcell hbw1; have hzw1 := hbw1.size; (try simp at hzw1); have hyw1 : w.heap.size < w1.heap.size := (by omega); (try have hyaw1 : w.heap.size + 1 < w1.heap.size := (by omega)); (try have hybw1 : w.heap.size + 2 < w1.heap.size := (by omega)); (try have hycw1 : w.heap.size + 3 < w1.heap.size := (by omega)); (try have hydw1 : w.heap.size + 4 < w1.heap.size := (by omega)); clear hzw1; have K0 := Blk.call ((Blk.new w 85 #[.int .i64 0, .int .i64 0, .bool false, .slice none 0 0, .slice none 0 0]).alloc (.cells #[.int .i64 0, .int .i64 0] 38)) hbw1; have lK0 := K0.lt; have qK0 := K0.q; have rK0 := K0.fz; have K0' := Lib.hid K0; clear K0; have K0 := K0'.out; clear K0'; have K1 := Blk.call (blk_in (t := 38) (cs := #[.int .i64 0, .int .i64 0]) (w := w.alloc (.cells #[.int .i64 0, .int .i64 0, .bool false, .slice none 0 0, .slice none 0 0] 85)) (g := w.heap.size + 1) (by simp)) hbw1; have lK1 := K1.lt; have qK1 := K1.q; have rK1 := K1.fz; have K1' := Lib.hid K1; clear K1; have K1 := K1'.out; clear K1'; have HND := Lib.hid hnd; clear hnd))
  go_region
  go_wp2
  refine bodyPost_ret (v := .tuple #[.agg #[.int .i64 x1, .int .i64 x2, .bool x3, .slice y4 m4 z4, .slice y5 m5 z5], errV (0, 0)]) (by simp only [results, Tryz.results99]; go_simp) rfl ?_
  have hnd := HND.out
  have hlo : w.heap.size + 1 < w.heap.size + 1 + 1 := Nat.lt_succ_self _
  refine ⟨by ((repeat' (first | (with_reducible exact Below.refl _ _) | (with_reducible assumption) | (with_reducible refine Below.setCell ?_ ?_ _) | (with_reducible refine Below.alloc ?_ ?_ _) | (with_reducible refine Below.drew ?_) | (with_reducible refine below_drewN ?_ _) | (with_reducible refine Below.step (by with_reducible assumption) ?_ ?_))) <;> (first | omega | (simp; done) | (simp; omega))), x1, x2, x3, y4, y5, m4, z4, m5, z5, rfl, ?_⟩
  rw [HTL.out] at hnd
  have hnd2 : IsNode (fun b => w.heap.size + 1 + 1 ≤ b) d w1 [.int .i64 x1, .int .i64 x2, .bool x3, .slice y4 m4 z4, .slice y5 m5 z5] l := hnd.weak fun b _ h => by simpa using h
  clear hnd
  refine IsNode.weak (S := fun b => w.heap.size + 1 + 1 ≤ b) ?_ (fun b _ h => by omega)
  ((repeat' (first | with_reducible exact hnd2 | with_reducible refine node_drew ?_ | with_reducible refine node_alloc ?_ _ | with_reducible refine node_set ?_ ?_ _)); (all_goals first | exact hlo | exact Nat.lt_of_succ_lt hlo))

set_option maxRecDepth 100000 in
set_option maxHeartbeats 4000000 in
theorem rWithin_no (d : Nat) (hd : d ≤ 60) (v : Value) (l : List UInt8) (w : World) (hw : IsB w v l) (hL : l.length ≤ 1000000) (ht : ¬ treeOK d l) :
    Calls Tryz.prog 99 #[v, .int .i64 d] w (RetWN w) := by
  have hlen := hw.len ulB
  have HB := Lib.hid hw
  cases hr : readT d l with
  | none =>
    have H : Hid (∀ W, IsB W v l → Calls Tryz.prog 132 #[v, .int .i64 d] W (RetNdN l.length W)) := by
      intro W hW
      have := rRead_any d hd v l W hW hL
      rwa [hr] at this
    clear hw ht hr
    go_enter Tryz.func99, Tryz.ntmps99
    go_wp2_with (first | ((go_at_call 132); (with_reducible refine (H.out _ ((HB.out.alloc _).alloc _)).mono ?_); rintro e w1 ⟨hbw1, ec, eo, hec, heo, heo2, rfl⟩; obtain ⟨hcw1, hfw1⟩ := bcell hbw1; have hzw1 := hbw1.size; (try simp at hzw1); have hyw1 : w.heap.size < w1.heap.size := (by omega); (try have hyaw1 : w.heap.size + 1 < w1.heap.size := (by omega)); (try have hybw1 : w.heap.size + 2 < w1.heap.size := (by omega)); (try have hycw1 : w.heap.size + 3 < w1.heap.size := (by omega)); (try have hydw1 : w.heap.size + 4 < w1.heap.size := (by omega)); clear hzw1; have K0 := Blk.call ((Blk.new w 85 #[.int .i64 0, .int .i64 0, .bool false, .slice none 0 0, .slice none 0 0]).alloc (.cells #[.int .i64 0, .int .i64 0] 38)) hbw1; have lK0 := K0.lt; have qK0 := K0.q; have rK0 := K0.fz; have K0' := Lib.hid K0; clear K0; have K0 := K0'.out; clear K0'; have K1 := Blk.call (blk_in (t := 38) (cs := #[.int .i64 0, .int .i64 0]) (w := w.alloc (.cells #[.int .i64 0, .int .i64 0, .bool false, .slice none 0 0, .slice none 0 0] 85)) (g := w.heap.size + 1) (by simp)) hbw1; have lK1 := K1.lt; have qK1 := K1.q; have rK1 := K1.fz; have K1' := Lib.hid K1; clear K1; have K1 := K1'.out; clear K1'; have hn : (ec == 0) = false := beq_eq_false_iff_ne.2 (by omega); have hn' : (ec != 0) = true := (by simp; omega)))
    go_region
    go_wp2
    refine bodyPost_ret (v := .tuple #[.agg #[.int .i64 0, .int .i64 0, .bool false, .slice none 0 0, .slice none 0 0], errV (ec, eo)]) (by simp only [results, Tryz.results99]; go_simp) rfl ?_
    exact ⟨by ((repeat' (first | (with_reducible exact Below.refl _ _) | (with_reducible assumption) | (with_reducible refine Below.setCell ?_ ?_ _) | (with_reducible refine Below.alloc ?_ ?_ _) | (with_reducible refine Below.drew ?_) | (with_reducible refine below_drewN ?_ _) | (with_reducible refine Below.step (by with_reducible assumption) ?_ ?_))) <;> (first | omega | (simp; done) | (simp; omega))), ec, eo, hec, rfl⟩
  | some n =>
    have hb := readT_bound hr
    have hne : n ≠ l.length := fun h => ht (by unfold treeOK; rw [hr, h])
    have H : Hid (∀ W, IsB W v l → Calls Tryz.prog 132 #[v, .int .i64 d] W (RetNdY d n l W)) := by
      intro W hW
      have := rRead_any d hd v l W hW hL
      rwa [hr] at this
    have hlt : (n : Int) < l.length := by omega
    have hdd : decide (n < l.length) = true := decide_eq_true (by omega)
    clear hw ht hr
    go_enter Tryz.func99, Tryz.ntmps99
    go_wp2_with (first | ((go_at_call 132); (with_reducible refine (H.out _ ((HB.out.alloc _).alloc _)).mono ?_); rintro e w1 ⟨hbw1, x1, x2, x3, y4, y5, m4, z4, m5, z5, rfl, hnd⟩; obtain ⟨hcw1, hfw1⟩ := bcell hbw1; have hzw1 := hbw1.size; (try simp at hzw1); have hyw1 : w.heap.size < w1.heap.size := (by omega); (try have hyaw1 : w.heap.size + 1 < w1.heap.size := (by omega)); (try have hybw1 : w.heap.size + 2 < w1.heap.size := (by omega)); (try have hycw1 : w.heap.size + 3 < w1.heap.size := (by omega)); (try have hydw1 : w.heap.size + 4 < w1.heap.size := (by omega)); clear hzw1; have K0 := Blk.call ((Blk.new w 85 #[.int .i64 0, .int .i64 0, .bool false, .slice none 0 0, .slice none 0 0]).alloc (.cells #[.int .i64 0, .int .i64 0] 38)) hbw1; have lK0 := K0.lt; have qK0 := K0.q; have rK0 := K0.fz; have K0' := Lib.hid K0; clear K0; have K0 := K0'.out; clear K0'; have K1 := Blk.call (blk_in (t := 38) (cs := #[.int .i64 0, .int .i64 0]) (w := w.alloc (.cells #[.int .i64 0, .int .i64 0, .bool false, .slice none 0 0, .slice none 0 0] 85)) (g := w.heap.size + 1) (by simp)) hbw1; have lK1 := K1.lt; have qK1 := K1.q; have rK1 := K1.fz; have K1' := Lib.hid K1; clear K1; have K1 := K1'.out; clear K1'; clear hnd))
    refine bodyPost_ret (v := .tuple #[.agg #[.int .i64 0, .int .i64 0, .bool false, .slice none 0 0, .slice none 0 0], errV (2, n)]) (by simp only [results, Tryz.results99]; go_simp) rfl ?_
    exact ⟨by ((repeat' (first | (with_reducible exact Below.refl _ _) | (with_reducible assumption) | (with_reducible refine Below.setCell ?_ ?_ _) | (with_reducible refine Below.alloc ?_ ?_ _) | (with_reducible refine Below.drew ?_) | (with_reducible refine below_drewN ?_ _) | (with_reducible refine Below.step (by with_reducible assumption) ?_ ?_))) <;> (first | omega | (simp; done) | (simp; omega))), 2, n, by omega, rfl⟩

set_option maxRecDepth 100000 in
set_option maxHeartbeats 4000000 in
theorem rParse_yes (v : Value) (l : List UInt8) (w : World) (hw : IsB w v l) (hL : l.length ≤ 1000000) (ht : treeOK 16 l) :
    Calls Tryz.prog 131 #[v] w (RetPY w) := by
  have H : Hid (∀ W, IsB W v l → Calls Tryz.prog 99 #[v, .int .i64 16] W (RetWY 16 l W)) := fun W h => rWithin_yes 16 (by decide) v l W h hL ht
  have HB := Lib.hid hw
  clear hw ht
  go_enter Tryz.func131, Tryz.ntmps131
  go_wp2_with (first | ((go_at_call 99); (with_reducible refine (H.out _ ((HB.out.alloc _).alloc _)).mono ?_); rintro e w1 ⟨hbw1, x1, x2, x3, y4, y5, m4, z4, m5, z5, rfl, hnd⟩; obtain ⟨hcw1, hfw1⟩ := bcell hbw1; have hzw1 := hbw1.size; (try simp at hzw1); have hyw1 : w.heap.size < w1.heap.size := (by omega); (try have hyaw1 : w.heap.size + 1 < w1.heap.size := (by omega)); (try have hybw1 : w.heap.size + 2 < w1.heap.size := (by omega)); (try have hycw1 : w.heap.size + 3 < w1.heap.size := (by omega)); (try have hydw1 : w.heap.size + 4 < w1.heap.size := (by omega)); clear hzw1; have K0 := Blk.call ((Blk.new w 85 #[.int .i64 0, .int .i64 0, .bool false, .slice none 0 0, .slice none 0 0]).alloc (.cells #[.int .i64 0, .int .i64 0] 38)) hbw1; have lK0 := K0.lt; have qK0 := K0.q; have rK0 := K0.fz; have K0' := Lib.hid K0; clear K0; have K0 := K0'.out; clear K0'; have K1 := Blk.call (blk_in (t := 38) (cs := #[.int .i64 0, .int .i64 0]) (w := w.alloc (.cells #[.int .i64 0, .int .i64 0, .bool false, .slice none 0 0, .slice none 0 0] 85)) (g := w.heap.size + 1) (by simp)) hbw1; have lK1 := K1.lt; have qK1 := K1.q; have rK1 := K1.fz; have K1' := Lib.hid K1; clear K1; have K1 := K1'.out; clear K1'; clear hnd))
  refine bodyPost_ret (v := .tuple #[.agg #[.int .i64 x1, .int .i64 x2, .bool x3, .slice y4 m4 z4, .slice y5 m5 z5], errV (0, 0)]) (by simp only [results, Tryz.results131]; go_simp) rfl ?_
  exact ⟨by ((repeat' (first | (with_reducible exact Below.refl _ _) | (with_reducible assumption) | (with_reducible refine Below.setCell ?_ ?_ _) | (with_reducible refine Below.alloc ?_ ?_ _) | (with_reducible refine Below.drew ?_) | (with_reducible refine below_drewN ?_ _) | (with_reducible refine Below.step (by with_reducible assumption) ?_ ?_))) <;> (first | omega | (simp; done) | (simp; omega))), x1, x2, x3, y4, y5, m4, z4, m5, z5, rfl⟩

set_option maxRecDepth 100000 in
set_option maxHeartbeats 4000000 in
theorem rParse_no (v : Value) (l : List UInt8) (w : World) (hw : IsB w v l) (hL : l.length ≤ 1000000) (ht : ¬ treeOK 16 l) :
    Calls Tryz.prog 131 #[v] w (RetWN w) := by
  have H : Hid (∀ W, IsB W v l → Calls Tryz.prog 99 #[v, .int .i64 16] W (RetWN W)) := fun W h => rWithin_no 16 (by decide) v l W h hL ht
  have HB := Lib.hid hw
  clear hw ht
  go_enter Tryz.func131, Tryz.ntmps131
  go_wp2_with (first | ((go_at_call 99); (with_reducible refine (H.out _ ((HB.out.alloc _).alloc _)).mono ?_); rintro e w1 ⟨hbw1, ec, eo, hec, rfl⟩; obtain ⟨hcw1, hfw1⟩ := bcell hbw1; have hzw1 := hbw1.size; (try simp at hzw1); have hyw1 : w.heap.size < w1.heap.size := (by omega); (try have hyaw1 : w.heap.size + 1 < w1.heap.size := (by omega)); (try have hybw1 : w.heap.size + 2 < w1.heap.size := (by omega)); (try have hycw1 : w.heap.size + 3 < w1.heap.size := (by omega)); (try have hydw1 : w.heap.size + 4 < w1.heap.size := (by omega)); clear hzw1; have K0 := Blk.call ((Blk.new w 85 #[.int .i64 0, .int .i64 0, .bool false, .slice none 0 0, .slice none 0 0]).alloc (.cells #[.int .i64 0, .int .i64 0] 38)) hbw1; have lK0 := K0.lt; have qK0 := K0.q; have rK0 := K0.fz; have K0' := Lib.hid K0; clear K0; have K0 := K0'.out; clear K0'; have K1 := Blk.call (blk_in (t := 38) (cs := #[.int .i64 0, .int .i64 0]) (w := w.alloc (.cells #[.int .i64 0, .int .i64 0, .bool false, .slice none 0 0, .slice none 0 0] 85)) (g := w.heap.size + 1) (by simp)) hbw1; have lK1 := K1.lt; have qK1 := K1.q; have rK1 := K1.fz; have K1' := Lib.hid K1; clear K1; have K1 := K1'.out; clear K1'))
  refine bodyPost_ret (v := .tuple #[.agg #[.int .i64 0, .int .i64 0, .bool false, .slice none 0 0, .slice none 0 0], errV (ec, eo)]) (by simp only [results, Tryz.results131]; go_simp) rfl ?_
  exact ⟨by ((repeat' (first | (with_reducible exact Below.refl _ _) | (with_reducible assumption) | (with_reducible refine Below.setCell ?_ ?_ _) | (with_reducible refine Below.alloc ?_ ?_ _) | (with_reducible refine Below.drew ?_) | (with_reducible refine below_drewN ?_ _) | (with_reducible refine Below.step (by with_reducible assumption) ?_ ?_))) <;> (first | omega | (simp; done) | (simp; omega))), ec, eo, hec, rfl⟩

def RetDY (d : Nat) (l : List UInt8) (w : World) (e : Ending) (w' : World) : Prop := Below w.heap.size w w' ∧ ∃ (c1 c2 : Int) (c3 : Bool) (a4 a5 : Option Addr) (n4 k4 n5 k5 : Nat),
  e = .returned (.tuple #[.agg #[.int .i64 c1, .int .i64 c2, .bool c3, .slice a4 n4 k4, .slice a5 n5 k5], .bool true]) ∧
    IsNode (fun b => w.heap.size ≤ b) d w' [.int .i64 c1, .int .i64 c2, .bool c3, .slice a4 n4 k4, .slice a5 n5 k5] l

set_option maxRecDepth 100000 in
set_option maxHeartbeats 4000000 in
theorem rDeep_yes (v : Value) (l : List UInt8) (w : World) (hw : IsB w v l) (hL : l.length ≤ 1000000) (ht : treeOK 60 l) :
    Calls Tryz.prog 61 #[v] w (RetDY 60 l w) := by
  have H : Hid (∀ W, IsB W v l → Calls Tryz.prog 99 #[v, .int .i64 60] W (RetWY 60 l W)) := fun W h => rWithin_yes 60 (by decide) v l W h hL ht
  have HB := Lib.hid hw
  clear hw ht
  go_enter Tryz.func61, Tryz.ntmps61
  go_wp2_with (first | ((go_at_call 99); (with_reducible refine (H.out _ (HB.out.alloc _)).mono ?_); rintro e w1 ⟨hbw1, x1, x2, x3, y4, y5, m4, z4, m5, z5, rfl, hnd⟩; obtain ⟨hcw1, hfw1⟩ := bcell hbw1; have hzw1 := hbw1.size; (try simp at hzw1); have hyw1 : w.heap.size < w1.heap.size := (by omega); (try have hyaw1 : w.heap.size + 1 < w1.heap.size := (by omega)); (try have hybw1 : w.heap.size + 2 < w1.heap.size := (by omega)); (try have hycw1 : w.heap.size + 3 < w1.heap.size := (by omega)); (try have hydw1 : w.heap.size + 4 < w1.heap.size := (by omega)); clear hzw1; have K0 := Blk.call (Blk.new w 85 #[.int .i64 0, .int .i64 0, .bool false, .slice none 0 0, .slice none 0 0]) hbw1; have lK0 := K0.lt; have qK0 := K0.q; have rK0 := K0.fz; have K0' := Lib.hid K0; clear K0; have K0 := K0'.out; clear K0'; have HND := Lib.hid hnd; clear hnd))
  go_region
  go_wp2
  refine bodyPost_ret (v := .tuple #[.agg #[.int .i64 x1, .int .i64 x2, .bool x3, .slice y4 m4 z4, .slice y5 m5 z5], .bool true]) (by simp only [results, Tryz.results61]; go_simp) rfl ?_
  have hnd := HND.out
  have hlo : w.heap.size < w.heap.size + 1 := Nat.lt_succ_self _
  refine ⟨by ((repeat' (first | (with_reducible exact Below.refl _ _) | (with_reducible assumption) | (with_reducible refine Below.setCell ?_ ?_ _) | (with_reducible refine Below.alloc ?_ ?_ _) | (with_reducible refine Below.drew ?_) | (with_reducible refine below_drewN ?_ _) | (with_reducible refine Below.step (by with_reducible assumption) ?_ ?_))) <;> (first | omega | (simp; done) | (simp; omega))), x1, x2, x3, y4, y5, m4, z4, m5, z5, rfl, ?_⟩
  have hnd2 : IsNode (fun b => w.heap.size + 1 ≤ b) 60 w1 [.int .i64 x1, .int .i64 x2, .bool x3, .slice y4 m4 z4, .slice y5 m5 z5] l := hnd.weak fun b _ h => by simpa using h
  clear hnd
  refine IsNode.weak (S := fun b => w.heap.size + 1 ≤ b) ?_ (fun b _ h => by omega)
  ((repeat' (first | with_reducible exact hnd2 | with_reducible refine node_drew ?_ | with_reducible refine node_alloc ?_ _ | with_reducible refine node_set ?_ ?_ _)); (all_goals first | exact hlo | exact Nat.lt_of_succ_lt hlo))

set_option maxRecDepth 100000 in
set_option maxHeartbeats 4000000 in
theorem rDeep_no (v : Value) (l : List UInt8) (w : World) (hw : IsB w v l) (hL : l.length ≤ 1000000) (ht : ¬ treeOK 60 l) :
    Calls Tryz.prog 61 #[v] w (RetB (.tuple #[.agg #[.int .i64 0, .int .i64 0, .bool false, .slice none 0 0, .slice none 0 0], .bool false]) w) := by
  have H : Hid (∀ W, IsB W v l → Calls Tryz.prog 99 #[v, .int .i64 60] W (RetWN W)) := fun W h => rWithin_no 60 (by decide) v l W h hL ht
  have HB := Lib.hid hw
  clear hw ht
  go_enter Tryz.func61, Tryz.ntmps61
  go_wp2_with (first | ((go_at_call 99); (with_reducible refine (H.out _ (HB.out.alloc _)).mono ?_); rintro e w1 ⟨hbw1, ec, eo, hec, rfl⟩; obtain ⟨hcw1, hfw1⟩ := bcell hbw1; have hzw1 := hbw1.size; (try simp at hzw1); have hyw1 : w.heap.size < w1.heap.size := (by omega); (try have hyaw1 : w.heap.size + 1 < w1.heap.size := (by omega)); (try have hybw1 : w.heap.size + 2 < w1.heap.size := (by omega)); (try have hycw1 : w.heap.size + 3 < w1.heap.size := (by omega)); (try have hydw1 : w.heap.size + 4 < w1.heap.size := (by omega)); clear hzw1; have K0 := Blk.call (Blk.new w 85 #[.int .i64 0, .int .i64 0, .bool false, .slice none 0 0, .slice none 0 0]) hbw1; have lK0 := K0.lt; have qK0 := K0.q; have rK0 := K0.fz; have K0' := Lib.hid K0; clear K0; have K0 := K0'.out; clear K0'; have hn : (ec == 0) = false := beq_eq_false_iff_ne.2 (by omega); have hn' : (ec != 0) = true := (by simp; omega)))
  go_region
  go_wp2
  (refine bodyPost_retB (v := .tuple #[.agg #[.int .i64 0, .int .i64 0, .bool false, .slice none 0 0, .slice none 0 0], .bool false]) (by (simp only [results, Tryz.results61]; try go_simp)) rfl rfl ?_; ((repeat' (first | (with_reducible exact Below.refl _ _) | (with_reducible assumption) | (with_reducible refine Below.setCell ?_ ?_ _) | (with_reducible refine Below.alloc ?_ ?_ _) | (with_reducible refine Below.drew ?_) | (with_reducible refine below_drewN ?_ _) | (with_reducible refine Below.step (by with_reducible assumption) ?_ ?_))) <;> (first | omega | (simp; done) | (simp; omega))))

set_option maxRecDepth 100000 in
set_option maxHeartbeats 4000000 in
theorem rOpen_any (v : Value) (l : List UInt8) (w : World) (hw : IsB w v l) (hL : l.length ≤ 1000000) :
    Calls Tryz.prog 97 #[v] w (RetB (.bool (decide (treeOK 16 l))) w) := by
  by_cases ht : treeOK 16 l
  · have H := Lib.hid (fun W (h : IsB W v l) => rParse_yes v l W h hL ht)
    have HB := Lib.hid hw
    rw [decide_eq_true ht]
    clear hw ht
    go_enter Tryz.func97, Tryz.ntmps97
    go_wp2_with (first | ((go_at_call 131); (with_reducible refine (H.out _ HB.out).mono ?_); rintro e w1 ⟨hbw1, x1, x2, x3, y4, y5, m4, z4, m5, z5, rfl⟩; obtain ⟨hcw1, hfw1⟩ := bcell hbw1; have hs1 := hbw1.size))
    go_ret
    exact ⟨rfl, by ((repeat' (first | (with_reducible exact Below.refl _ _) | (with_reducible assumption) | (with_reducible refine Below.setCell ?_ ?_ _) | (with_reducible refine Below.alloc ?_ ?_ _) | (with_reducible refine Below.drew ?_) | (with_reducible refine below_drewN ?_ _) | (with_reducible refine Below.step (by with_reducible assumption) ?_ ?_))) <;> (first | omega | (simp; done) | (simp; omega)))⟩
  · have H := Lib.hid (fun W (h : IsB W v l) => rParse_no v l W h hL ht)
    have HB := Lib.hid hw
    rw [decide_eq_false ht]
    clear hw ht
    go_enter Tryz.func97, Tryz.ntmps97
    go_wp2_with (first | ((go_at_call 131); (with_reducible refine (H.out _ HB.out).mono ?_); rintro e w1 ⟨hbw1, ec, eo, hec, rfl⟩; obtain ⟨hcw1, hfw1⟩ := bcell hbw1; have hs1 := hbw1.size; have hn : (ec == 0) = false := beq_eq_false_iff_ne.2 (by omega); have hn' : (ec != 0) = true := (by simp; omega)))
    go_ret
    exact ⟨rfl, by ((repeat' (first | (with_reducible exact Below.refl _ _) | (with_reducible assumption) | (with_reducible refine Below.setCell ?_ ?_ _) | (with_reducible refine Below.alloc ?_ ?_ _) | (with_reducible refine Below.drew ?_) | (with_reducible refine below_drewN ?_ _) | (with_reducible refine Below.step (by with_reducible assumption) ?_ ?_))) <;> (first | omega | (simp; done) | (simp; omega)))⟩
end Go.Proofs.YtlmnmgokfnnbbaaGreatDoor
end

/- Walk over the reference's Bytes of a tree. -/
section
set_option linter.unusedSimpArgs false
set_option linter.unusedVariables false
namespace Go.Proofs.YtlmnmgokfnnbbaaGreatDoor
open Go.RowKit Go.Cr
theorem szNode (W : World) : (sizeOf 85).run Tryz.prog W = .ok 5 W := by kernel_rfl
theorem nextH_tag {l : List UInt8} {h : Hdr} (e : nextH l = .ok h) : 0 ≤ h.cls ∧ h.cls ≤ 3 ∧ 0 ≤ h.num ∧ h.num < 31 := by
  obtain ⟨hr, _⟩ := nextH_hdr e
  have := rdHdr_ok hr
  omega
theorem take5_at {xs cs : List Value} {a : Nat} (h : (xs.drop a).take 5 = cs) (j : Nat) (hj : j < 5) : xs[a + j]? = cs[j]? := by
  rw [← h, List.getElem?_take, if_pos hj, List.getElem?_drop]

def BtRel (P : List UInt8) (ks : List (List UInt8)) (cs : Array Value) (w : World) (out ix : Value) (wr : World) : Prop :=
  ∃ k : Nat, ix = .int .i64 k ∧ k ≤ ks.length ∧ OwB wr (w.heap.size + 1) 5 out (P ++ cat ks k) ∧ Blk wr w.heap.size 85 cs ∧ Below w.heap.size w wr

set_option maxRecDepth 100000 in
set_option maxHeartbeats 8000000 in
theorem rBytes_step (d : Nat) (S : Nat → Prop) (cls num : Int) (con : Bool) (v4 v5 : Value) (Pz c : List UInt8) (ks : List (List UInt8)) (xs : List Value) (w : World)
    (t0 : 0 ≤ cls) (t1 : cls ≤ 3) (t2 : 0 ≤ num) (t3 : num < 31) (h4 : IsB w v4 Pz) (h5 : IsR w v5 5 ks.length xs) (hc : Pz ++ ks.flatten = c) (hcl : c.length ≤ 900000)
    (hk : ∀ j (hj : j < ks.length), IsNode S d w ((xs.drop (j * 5)).take 5) ks[j])
    (ih : ∀ (c1 c2 : Int) (c3 : Bool) (a4 a5 : Option Addr) (n4 k4 n5 k5 : Nat) (p : List UInt8) (W : World), IsNode S d W [.int .i64 c1, .int .i64 c2, .bool c3, .slice a4 n4 k4, .slice a5 n5 k5] p → p.length ≤ 900000 →
      Calls Tryz.prog 168 #[.agg #[.int .i64 c1, .int .i64 c2, .bool c3, .slice a4 n4 k4, .slice a5 n5 k5]] W (RetO 5 p W)) :
    Calls Tryz.prog 168 #[.agg #[.int .i64 cls, .int .i64 num, .bool con, v4, v5]] w (RetO 5 (encO cls con num c) w) := by
  have hl4 := h4.len ulB
  have hl5 := h5.len (P := Tryz.prog) ulNodes
  have hmx := h5.maxl
  obtain ⟨A4, k4, rfl⟩ := isB_slice h4
  obtain ⟨A5, k5, rfl⟩ : ∃ A5 k5, v5 = .slice A5 ks.length k5 := by obtain ⟨A5, k5, h, _⟩ := h5; exact ⟨A5, k5, h⟩
  have H4 := Lib.hid h4
  have H5 := Lib.hid h5
  have HK := Lib.hid hk
  have HIH := Lib.hid ih
  have hz := idB_bi cls con num t0 t1 t2 t3
  have HI0 : Hid (∀ W, Calls Tryz.prog 205 #[.int .i64 cls, .bool con, .int .i64 num] W fun e w' => e = .returned (.tuple #[.int .u8 (bi (idB cls con num)), .int .i64 0]) ∧ W = w') := fun W => by
    rw [hz]; exact rIdent_good cls num con W t0 t1 t2 t3
  have HPT := Lib.hid (fun W x u (h : IsB W u c) => rPut x u c W h hcl)
  have HE : Hid (encO cls con num c = idB cls con num :: (lenOct c.length ++ c)) := rfl
  have HCC := Lib.hid hc
  have hpl : ∀ k, (Pz ++ cat ks k).length ≤ 900000 := fun k => by
    have := cat_le ks k
    have e := congrArg List.length hc
    simp only [List.length_append] at e ⊢
    omega
  have HPL := Lib.hid hpl
  have hpz : Pz.length ≤ 900000 := by have := congrArg List.length hc; simp only [List.length_append] at this; omega
  clear h4 h5 hk ih hz hc hpl t0 t1 t2 t3
  generalize encO cls con num c = E at *
  generalize idB cls con num = z at *
  go_enter Tryz.func168, Tryz.ntmps168
  go_wp2_with (first | (go_at_call 205; (with_reducible refine (HI0.out _).mono ?_); rintro e w1 ⟨rfl, rfl⟩) | (at_builtin; refine wpList_appB _ rfl _ _ 33 rfl (w.heap.size + 1) 5 ulB infoB _ [] rfl (own_lit0 (by simp)) _ Pz rfl ((H4.out.alloc _).alloc _) ?k1 ?k2 ?_))
  case k1 => simp; omega
  case k2 => simp
  intro v2 w2 ho2 _ hb2
  have hK2 : Blk w2 w.heap.size 85 #[.int .i64 cls, .int .i64 num, .bool con, .slice A4 Pz.length k4, .slice A5 ks.length k5] := ((Blk.new w _ _).alloc _).below hb2 (by omega)
  have hbw2 : Below w.heap.size w w2 := (((Below.refl _ w).alloc (Nat.le_refl _) (.cells #[.int .i64 cls, .int .i64 num, .bool con, .slice A4 Pz.length k4, .slice A5 ks.length k5] 85)).alloc (by simp) (.cells #[] 5)).trans (hb2.mono (by omega))
  have HO2 := Lib.hid ho2
  have HK2 := Lib.hid hK2
  have HB2 := Lib.hid hbw2
  clear ho2 hb2 hK2 hbw2
  go_wp2_with fail
  go_loopw [5, 6] (fun out ix wr => BtRel Pz ks #[.int .i64 cls, .int .i64 num, .bool con, .slice A4 Pz.length k4, .slice A5 ks.length k5] w out ix wr) (fun _ ix _ => ks.length - (intOf ix).toNat)
  case atStart => exact ⟨0, rfl, Nat.zero_le _, by rw [cat_zero, List.append_nil]; exact HO2.out, HK2.out, HB2.out⟩
  case round =>
    obtain ⟨k, rfl, hk, hO, hK, hbel⟩ := hrel
    have HO := Lib.hid hO
    have HBR := Lib.hid hbel
    have HKR := Lib.hid hK
    have hq := hK.q
    have hf := hK.fz
    have hl := hK.lt
    clear hO hK
    by_cases hlt : k < ks.length
    · obtain ⟨b, o, hi, hbl, hcx⟩ := H5.out.at_ (P := Tryz.prog) ulNodes szNode .i64 (i := k) (by omega) (by omega)
      simp only [Int.toNat_natCast] at hcx
      have hnd := HK.out k hlt
      obtain ⟨x1, x2, x3, y4, y5, m4, z4, m5, z5, hsh⟩ := hnd.shape
      rw [hsh] at hnd
      have p0 := (hbel.cell (p := ⟨b, o + 0, none⟩) hbl).trans (hcx 0 _ (take5_at hsh 0 (by omega)))
      have p1 := (hbel.cell (p := ⟨b, o + 1, none⟩) hbl).trans (hcx 1 _ (take5_at hsh 1 (by omega)))
      have p2 := (hbel.cell (p := ⟨b, o + 2, none⟩) hbl).trans (hcx 2 _ (take5_at hsh 2 (by omega)))
      have p3 := (hbel.cell (p := ⟨b, o + 3, none⟩) hbl).trans (hcx 3 _ (take5_at hsh 3 (by omega)))
      have p4 := (hbel.cell (p := ⟨b, o + 4, none⟩) hbl).trans (hcx 4 _ (take5_at hsh 4 (by omega)))
      rw [Nat.add_zero] at p0
      have hltI : (k : Int) < ks.length := by omega
      have hgd : ks.getD k [] = ks[k] := by simp [hlt]
      have HS := Lib.hid (cat_succ ks k hlt)
      have hc2 := HPL.out (k + 1)
      rw [HS.out, hgd] at hc2
      simp only [List.length_append] at hc2
      rw [hgd] at HS
      have HU := Lib.hid (HIH.out _ _ _ _ _ _ _ _ _ _ wr (hnd.below hbel) (by omega))
      clear hcx hbel hnd hsh hgd
      generalize ks[k] = p at *
      go_wp2_with (first | (go_at_call 168; (with_reducible refine (HU.out).mono ?_); rintro e w2 ⟨v2, rfl, ho2, hb2⟩; have HU2 := Lib.hid ho2.isB; have J0 := Blk.call (HKR.out) hb2; have lJ0 := J0.lt; have qJ0 := J0.q; have rJ0 := J0.fz; have J0' := Lib.hid J0; clear J0; have J0 := J0'.out; clear J0'; have HO3 := Lib.hid (show OwB w2 (w.heap.size + 1) 5 _ _ from ownsRow_below HO.out hb2); have hs2 := hb2.size; clear ho2) | (at_builtin; refine wpList_appB _ rfl _ _ 33 rfl (w.heap.size + 1) 5 ulB infoB _ _ rfl HO3.out _ p rfl HU2.out ?k1 ?k2 ?_))
      case k1 => simp only [List.length_append]; omega
      case k2 => omega
      intro v3 w3 ho3 _ hb3
      rw [← HS.out] at ho3
      have HO4 := Lib.hid ho3
      have HK4 := Lib.hid (show Blk w3 w.heap.size 85 _ from J0.below hb3 (by omega))
      have hbel2 : Below w.heap.size w w3 := (HBR.out.trans (hb2.mono HBR.out.size)).trans (hb3.mono (by omega))
      clear ho3 hb3 hb2 J0 qJ0 rJ0 lJ0 p0 p1 p2 p3 p4 hq hf
      go_wp2
      go_roundw
      case rel => exact ⟨k + 1, by go_num, by omega, HO4.out, HK4.out, hbel2⟩
      case measure => simp [intOf]; omega
    · have hge : (ks.length : Int) ≤ k := by omega
      have ho' : IsB wr u5 c := by
        have := HO.out.isB
        rwa [show k = ks.length by omega, cat_all, HCC.out] at this
      have HO5 := Lib.hid ho'
      clear hlt ho' hbel
      go_wp2_with (first | (go_at_call 94; (with_reducible refine (HPT.out _ z _ HO5.out).mono ?_); rintro e w2 ⟨v2, rfl, ho2, hb2⟩; have HO2 := Lib.hid ho2; clear ho2))
      go_ret
      rw [HE.out]
      exact ⟨_, rfl, HO2.out.more HBR.out.size, HBR.out.trans (hb2.mono HBR.out.size)⟩

theorem rBytes (d : Nat) : ∀ (S : Nat → Prop) (c1 c2 : Int) (c3 : Bool) (a4 a5 : Option Addr) (n4 k4 n5 k5 : Nat) (l : List UInt8) (w : World), IsNode S d w [.int .i64 c1, .int .i64 c2, .bool c3, .slice a4 n4 k4, .slice a5 n5 k5] l → l.length ≤ 900000 →
    Calls Tryz.prog 168 #[.agg #[.int .i64 c1, .int .i64 c2, .bool c3, .slice a4 n4 k4, .slice a5 n5 k5]] w (RetO 5 l w) := by
  induction d with
  | zero => intro S c1 c2 c3 a4 a5 n4 k4 n5 k5 l w h; exact h.elim
  | succ d ih =>
    intro S c1 c2 c3 a4 a5 n4 k4 n5 k5 l w h hl
    obtain ⟨hd, v4, v5, ks, xs, h1, h2, h3, h4, h5, h6, h7⟩ := h
    injection h3 with e1 h3; injection h3 with e2 h3; injection h3 with e3 h3; injection h3 with e4 h3; injection h3 with e5 h3
    injection e1 with _ e1; injection e2 with _ e2; injection e3 with e3
    subst e1 e2 e3 e4 e5
    have ht := nextH_tag h1
    have hk := nextH_ok h1
    have hcl := cont_len h1
    have hcan := nextH_canon h1
    rw [h2, Int.toNat_natCast, List.take_length] at hcan
    have hc : (if hd.con then [] else cont l hd) ++ ks.flatten = cont l hd := by
      cases hcon : hd.con with
      | false => rw [hcon] at h6; simp only [Bool.false_eq_true, if_false] at h6 ⊢; rw [h6]; simp
      | true => rw [hcon] at h6; simp only [if_true] at h6 ⊢; rw [h6]; simp
    have hb4 : IsB w (.slice a4 n4 k4) (if hd.con then [] else cont l hd) := h4.isR.bytes
    have := rBytes_step d S hd.cls hd.num hd.con _ _ _ (cont l hd) ks xs w ht.1 ht.2.1 ht.2.2.1 ht.2.2.2 hb4 h5.isR hc (by omega) (fun j hj => (h7 j hj).2) (fun a b c e f g h i j p W hn hp => ih S a b c e f g h i j p W hn hp)
    rwa [hcan] at this
end Go.Proofs.YtlmnmgokfnnbbaaGreatDoor
end

/- Walks over the loops that compare parts. -/
section
set_option linter.unusedSimpArgs false
set_option linter.unusedVariables false
namespace Go.Proofs.YtlmnmgokfnnbbaaGreatDoor
open Go.RowKit Go.Cr
def OrRel (ls : List (List UInt8)) (w : World) (d : Int) (i : Value) (wr : World) : Prop :=
  ∃ k : Nat, (k : Int) ≤ max d ls.length ∧ d ≤ k ∧ i = .int .i64 k ∧ (∀ j, j + 1 < k → cmpL (ls.getD j []) (ls.getD (j + 1) []) < 0) ∧ Below w.heap.size w wr

set_option maxRecDepth 100000 in
set_option maxHeartbeats 2000000 in
theorem rOrdered (v : Value) (ls : List (List UInt8)) (w : World) (hv : IsBs w v ls) : Calls Tryz.prog 60 #[v] w (RetB (.bool (ascB ls)) w) := by
  have h1 := hv.len ulBs
  have hmx := hv.maxl
  have HA := Lib.hid hv
  clear hv
  go_enter Tryz.func60, Tryz.ntmps60
  go_wp2
  go_loopw [3] (fun i wr => OrRel ls w 1 i wr) (fun i _ => ls.length - (intOf i).toNat)
  case atStart => exact ⟨1, by omega, by omega, rfl, fun j hj => absurd hj (by omega), Below.refl _ _⟩
  case round =>
    obtain ⟨k, hk, hk1, rfl, hall, hbel⟩ := hrel
    have HL := Lib.hid hall
    clear hall
    by_cases hlt : (k : Int) < ls.length
    · obtain ⟨b1, o1, u1, hi1, hb1, hc1, hu1⟩ := (HA.out.below hbel).at_ (P := Tryz.prog) ulBs szBs .i64 (i := (k : Int) - 1) (by omega) (by omega)
      obtain ⟨b2, o2, u2, hi2, hb2, hc2, hu2⟩ := (HA.out.below hbel).at_ (P := Tryz.prog) ulBs szBs .i64 (i := k) (by omega) hlt
      simp only [Int.toNat_natCast] at hu2
      rw [show ((k : Int) - 1).toNat = k - 1 by omega] at hu1
      have HC := Lib.hid (fun n => rCompare_d u1 u2 _ _ (wr.drewN n) (hu1.drewN n) (hu2.drewN n))
      have hsub : IntKind.i64.wrap ((k : Int) - 1) = (k : Int) - 1 := IntWalk.i64_in _ (by omega)
      clear hu1 hu2
      have hvals := cmpL_vals (ls.getD (k - 1) []) (ls.getD k [])
      have HE : Hid (∀ c : Int, cmpL (ls.getD (k - 1) []) (ls.getD k []) = c → (c < 0 → ∀ j, j + 1 < k + 1 → cmpL (ls.getD j []) (ls.getD (j + 1) []) < 0) ∧ (¬ c < 0 → ascB ls = false)) := by
        intro c hc
        refine ⟨fun h0 j hj => ?_, fun h0 => ?_⟩
        · rcases Nat.lt_or_ge (j + 1) k with h | h
          · exact HL.out j h
          · obtain rfl : j = k - 1 := by omega
            rw [show k - 1 + 1 = k by omega, hc]; exact h0
        · cases hb : ascB ls with
          | false => rfl
          | true =>
            have := ascB_at.1 hb (k - 1) (by omega)
            rw [show k - 1 + 1 = k by omega, hc] at this
            exact absurd this h0
      generalize cmpL (ls.getD (k - 1) []) (ls.getD k []) = c at *
      have HE2 := Lib.hid (HE.out c rfl)
      clear HE
      rcases hvals with rfl | rfl | rfl
      · go_wp2
        go_quiet (first | (go_at_call 98; exact Calls.quiet_of (HC.out _)))
        go_wp2
        go_roundw
        case rel => exact ⟨k + 1, by omega, by omega, by go_num, HE2.out.1 (by omega), by ((repeat' (first | (with_reducible exact Below.refl _ _) | (with_reducible assumption) | (with_reducible refine Below.setCell ?_ ?_ _) | (with_reducible refine Below.alloc ?_ ?_ _) | (with_reducible refine Below.drew ?_) | (with_reducible refine below_drewN ?_ _) | (with_reducible refine Below.step (by with_reducible assumption) ?_ ?_))) <;> (first | omega | (simp; done) | (simp; omega)))⟩
        case measure => simp [intOf]; omega
      · rw [HE2.out.2 (by omega)]
        go_wp2
        go_quiet (first | (go_at_call 98; exact Calls.quiet_of (HC.out _)))
        go_wp2
        (refine bodyPost_retB (v := .bool false) (by (simp only [results, Tryz.results60]; try go_simp)) rfl rfl ?_; ((repeat' (first | (with_reducible exact Below.refl _ _) | (with_reducible assumption) | (with_reducible refine Below.setCell ?_ ?_ _) | (with_reducible refine Below.alloc ?_ ?_ _) | (with_reducible refine Below.drew ?_) | (with_reducible refine below_drewN ?_ _) | (with_reducible refine Below.step (by with_reducible assumption) ?_ ?_))) <;> (first | omega | (simp; done) | (simp; omega))))
      · rw [HE2.out.2 (by omega)]
        go_wp2
        go_quiet (first | (go_at_call 98; exact Calls.quiet_of (HC.out _)))
        go_wp2
        (refine bodyPost_retB (v := .bool false) (by (simp only [results, Tryz.results60]; try go_simp)) rfl rfl ?_; ((repeat' (first | (with_reducible exact Below.refl _ _) | (with_reducible assumption) | (with_reducible refine Below.setCell ?_ ?_ _) | (with_reducible refine Below.alloc ?_ ?_ _) | (with_reducible refine Below.drew ?_) | (with_reducible refine below_drewN ?_ _) | (with_reducible refine Below.step (by with_reducible assumption) ?_ ?_))) <;> (first | omega | (simp; done) | (simp; omega))))
    · have hb : ascB ls = true := ascB_at.2 fun j hj => HL.out j (by omega)
      rw [hb]
      go_wp2
      (refine bodyPost_retB (v := .bool true) (by (simp only [results, Tryz.results60]; try go_simp)) rfl rfl ?_; ((repeat' (first | (with_reducible exact Below.refl _ _) | (with_reducible assumption) | (with_reducible refine Below.setCell ?_ ?_ _) | (with_reducible refine Below.alloc ?_ ?_ _) | (with_reducible refine Below.drew ?_) | (with_reducible refine below_drewN ?_ _) | (with_reducible refine Below.step (by with_reducible assumption) ?_ ?_))) <;> (first | omega | (simp; done) | (simp; omega))))
end Go.Proofs.YtlmnmgokfnnbbaaGreatDoor
end

/- Literals in memory, worlds one after another. No program in sight. -/
section
set_option linter.unusedSimpArgs false
set_option linter.unusedVariables false
namespace Go.Proofs.YtlmnmgokfnnbbaaGreatDoor
open Go.RowKit Go.Cr
theorem isR_lit {w : World} {t : TypeId} {arr : Array Value} {k n g : Nat} (hg : g = w.heap.size) (hk : arr.size = n * k) (hn : n ≤ maxLen) : IsR (w.alloc (.cells arr t)) (.slice (some ⟨g, 0, none⟩) n n) k n arr.toList := by
  subst hg
  refine ⟨_, n, rfl, Nat.le_refl _, hn, by simp [hk], fun _ => ⟨w.heap.size, 0, rfl, by simp, fun j x hj => ?_⟩⟩
  rw [Nat.zero_add, World.cell?_alloc_new]
  simpa using hj
theorem isB_lit {w : World} {t : TypeId} {arr : Array Value} {l : List UInt8} {n g : Nat} (hg : g = w.heap.size) (hl : l.length = n) (ha : arr.toList = bCells l) (hn : n ≤ maxLen) : IsB (w.alloc (.cells arr t)) (.slice (some ⟨g, 0, none⟩) n n) l := by
  subst hl
  have := isR_lit (w := w) (t := t) (arr := arr) (k := 1) (n := l.length) (g := g) hg (by rw [← Array.length_toList, ha, bCells_len]; simp) hn
  rw [ha] at this
  exact this.bytes
theorem below_a {w w' : World} {o : Obj} (hb : Below (w.alloc o).heap.size (w.alloc o) w') : Below w.heap.size w w' :=
  ((Below.refl _ _).alloc (Nat.le_refl _) _).trans (hb.mono (by simp))
end Go.Proofs.YtlmnmgokfnnbbaaGreatDoor
end

/- Walks over Ordered of the program and Sorted of the reference. -/
section
set_option linter.unusedSimpArgs false
set_option linter.unusedVariables false
namespace Go.Proofs.YtlmnmgokfnnbbaaGreatDoor
open Go.RowKit Go.Cr
set_option maxRecDepth 100000 in
set_option maxHeartbeats 2000000 in
theorem pOrdered (v : Value) (ls : List (List UInt8)) (w : World) (hv : IsBs w v ls) : Calls Tryz.prog 55 #[v] w (RetB (.bool (ascB ls)) w) := by
  have h1 := hv.len ulBs
  have hmx := hv.maxl
  have HA := Lib.hid hv
  clear hv
  go_enter Tryz.func55, Tryz.ntmps55
  go_wp2
  go_loopw [6] (fun i wr => OrRel ls w 0 i wr) (fun i _ => ls.length - (intOf i).toNat)
  case atStart => exact ⟨0, by omega, by omega, rfl, fun j hj => absurd hj (by omega), Below.refl _ _⟩
  case round =>
    obtain ⟨k, hk, hk1, rfl, hall, hbel⟩ := hrel
    have HL := Lib.hid hall
    clear hall
    by_cases hlt : (k : Int) < ls.length
    · by_cases h0 : k = 0
      · subst h0
        have hd : decide ((0 : Int) < ((0 : Nat) : Int)) = false := rfl
        go_wp2
        go_quiet (fail)
        go_wp2
        go_roundw
        case rel => exact ⟨0 + 1, by omega, by omega, by go_num, fun j hj => absurd hj (by omega), by ((repeat' (first | (with_reducible exact Below.refl _ _) | (with_reducible assumption) | (with_reducible refine Below.setCell ?_ ?_ _) | (with_reducible refine Below.alloc ?_ ?_ _) | (with_reducible refine Below.drew ?_) | (with_reducible refine below_drewN ?_ _) | (with_reducible refine Below.step (by with_reducible assumption) ?_ ?_))) <;> (first | omega | (simp; done) | (simp; omega)))⟩
        case measure => simp [intOf]; omega
      · have hpos : (0 : Int) < (k : Int) := by omega
        have hpos' : 0 < k := by omega
        obtain ⟨b1, o1, u1, hi1, hb1, hc1, hu1⟩ := (HA.out.below hbel).at_ (P := Tryz.prog) ulBs szBs .i64 (i := (k : Int) - 1) (by omega) (by omega)
        obtain ⟨b2, o2, u2, hi2, hb2, hc2, hu2⟩ := (HA.out.below hbel).at_ (P := Tryz.prog) ulBs szBs .i64 (i := k) (by omega) hlt
        simp only [Int.toNat_natCast] at hu2
        rw [show ((k : Int) - 1).toNat = k - 1 by omega] at hu1
        have HC := Lib.hid (fun n => pCompare u1 u2 _ _ (wr.drewN n) (hu1.drewN n) (hu2.drewN n))
        have hsub : IntKind.i64.wrap ((k : Int) - 1) = (k : Int) - 1 := IntWalk.i64_in _ (by omega)
        clear hu1 hu2
        have hvals := cmpL_vals (ls.getD (k - 1) []) (ls.getD k [])
        have HE : Hid (∀ c : Int, cmpL (ls.getD (k - 1) []) (ls.getD k []) = c → (c < 0 → ∀ j, j + 1 < k + 1 → cmpL (ls.getD j []) (ls.getD (j + 1) []) < 0) ∧ (¬ c < 0 → ascB ls = false)) := by
          intro c hc
          refine ⟨fun h0 j hj => ?_, fun h0 => ?_⟩
          · rcases Nat.lt_or_ge (j + 1) k with h | h
            · exact HL.out j h
            · obtain rfl : j = k - 1 := by omega
              rw [show k - 1 + 1 = k by omega, hc]; exact h0
          · cases hb : ascB ls with
            | false => rfl
            | true =>
              have := ascB_at.1 hb (k - 1) (by omega)
              rw [show k - 1 + 1 = k by omega, hc] at this
              exact absurd this h0
        generalize cmpL (ls.getD (k - 1) []) (ls.getD k []) = c at *
        have HE2 := Lib.hid (HE.out c rfl)
        clear HE
        rcases hvals with rfl | rfl | rfl
        · go_wp2
          go_quiet (first | (go_at_call 93; exact Calls.quiet_of_same (HC.out _)))
          go_wp2
          go_roundw
          case rel => exact ⟨k + 1, by omega, by omega, by go_num, HE2.out.1 (by omega), by ((repeat' (first | (with_reducible exact Below.refl _ _) | (with_reducible assumption) | (with_reducible refine Below.setCell ?_ ?_ _) | (with_reducible refine Below.alloc ?_ ?_ _) | (with_reducible refine Below.drew ?_) | (with_reducible refine below_drewN ?_ _) | (with_reducible refine Below.step (by with_reducible assumption) ?_ ?_))) <;> (first | omega | (simp; done) | (simp; omega)))⟩
          case measure => simp [intOf]; omega
        · rw [HE2.out.2 (by omega)]
          go_wp2
          go_quiet (first | (go_at_call 93; exact Calls.quiet_of_same (HC.out _)))
          go_wp2
          (refine bodyPost_retB (v := .bool false) (by (simp only [results, Tryz.results55]; try go_simp)) rfl rfl ?_; ((repeat' (first | (with_reducible exact Below.refl _ _) | (with_reducible assumption) | (with_reducible refine Below.setCell ?_ ?_ _) | (with_reducible refine Below.alloc ?_ ?_ _) | (with_reducible refine Below.drew ?_) | (with_reducible refine below_drewN ?_ _) | (with_reducible refine Below.step (by with_reducible assumption) ?_ ?_))) <;> (first | omega | (simp; done) | (simp; omega))))
        · rw [HE2.out.2 (by omega)]
          go_wp2
          go_quiet (first | (go_at_call 93; exact Calls.quiet_of_same (HC.out _)))
          go_wp2
          (refine bodyPost_retB (v := .bool false) (by (simp only [results, Tryz.results55]; try go_simp)) rfl rfl ?_; ((repeat' (first | (with_reducible exact Below.refl _ _) | (with_reducible assumption) | (with_reducible refine Below.setCell ?_ ?_ _) | (with_reducible refine Below.alloc ?_ ?_ _) | (with_reducible refine Below.drew ?_) | (with_reducible refine below_drewN ?_ _) | (with_reducible refine Below.step (by with_reducible assumption) ?_ ?_))) <;> (first | omega | (simp; done) | (simp; omega))))
    · have hb : ascB ls = true := ascB_at.2 fun j hj => HL.out j (by omega)
      rw [hb]
      go_wp2
      (refine bodyPost_retB (v := .bool true) (by (simp only [results, Tryz.results55]; try go_simp)) rfl rfl ?_; ((repeat' (first | (with_reducible exact Below.refl _ _) | (with_reducible assumption) | (with_reducible refine Below.setCell ?_ ?_ _) | (with_reducible refine Below.alloc ?_ ?_ _) | (with_reducible refine Below.drew ?_) | (with_reducible refine below_drewN ?_ _) | (with_reducible refine Below.step (by with_reducible assumption) ?_ ?_))) <;> (first | omega | (simp; done) | (simp; omega))))

/-! ### Sorted of the reference -/
theorem asc_len {ls : List (List UInt8)} : ∀ {r : List (List UInt8)}, Asc r → (∀ x ∈ r, x ∈ ls) → r.length ≤ ls.length := by
  intro r
  induction r generalizing ls with
  | nil => intro _ _; simp
  | cons x t ih =>
    intro h1 h2
    have hx := h2 x (by simp)
    have := ih (ls := ls.erase x) h1.tail (fun y hy => (List.mem_erase_of_ne (fun e => by subst e; exact cmpL_irrefl y (h1.lt y hy))).2 (h2 y (List.mem_cons_of_mem _ hy)))
    rw [List.length_erase_of_mem hx] at this
    have := List.length_pos_of_mem hx
    simp; omega
theorem Beg.len {ls r : List (List UInt8)} (h : Beg ls r) : r.length ≤ ls.length := asc_len h.1 h.2.1
def EltB (w : World) (vs : List Value) (r : List (List UInt8)) : Prop := vs.length = r.length ∧ ∀ j, j < r.length → IsB w (vs.getD j undef) (r.getD j [])
theorem EltB.snoc {w : World} {vs : List Value} {r : List (List UInt8)} {u : Value} {l : List UInt8} (h : EltB w vs r) (hu : IsB w u l) : EltB w (vs ++ [u]) (r ++ [l]) := by
  refine ⟨by simp [h.1], fun j hj => ?_⟩
  have hj' : j < r.length + 1 := by simpa using hj
  rcases Nat.lt_or_ge j r.length with h1 | h1
  · have := h.2 j h1
    simpa [List.getD, List.getElem?_append_left h1, List.getElem?_append_left (show j < vs.length by rw [h.1]; exact h1)] using this
  · obtain rfl : j = r.length := by omega
    have h2 : (vs ++ [u])[r.length]? = some u := by rw [← h.1]; simp
    simpa [List.getD, h2] using hu
def Best (ls r : List (List UInt8)) (k : Nat) (best : Int) : Prop :=
  (best = -1 ∧ ∀ j, j < k → ¬ Behind r (ls.getD j [])) ∨ (∃ m : Nat, m < k ∧ best = m ∧ Behind r (ls.getD m []) ∧ ∀ j, j < k → Behind r (ls.getD j []) → ¬ cmpL (ls.getD j []) (ls.getD m []) < 0)
theorem Best.skip {ls r : List (List UInt8)} {k : Nat} {best : Int} (h : Best ls r k best) (hn : ¬ Behind r (ls.getD k [])) : Best ls r (k + 1) best := by
  rcases h with ⟨h1, h2⟩ | ⟨m, hm, h1, h2, h3⟩
  · refine .inl ⟨h1, fun j hj => ?_⟩
    rcases Nat.lt_or_ge j k with h | h
    · exact h2 j h
    · obtain rfl : j = k := by omega
      exact hn
  · refine .inr ⟨m, by omega, h1, h2, fun j hj hb => ?_⟩
    rcases Nat.lt_or_ge j k with h | h
    · exact h3 j h hb
    · obtain rfl : j = k := by omega
      exact absurd hb hn
theorem Best.first {ls r : List (List UInt8)} {k : Nat} (h : Best ls r k (-1)) (hb : Behind r (ls.getD k [])) : Best ls r (k + 1) k := by
  rcases h with ⟨_, h2⟩ | ⟨m, _, h1, _⟩
  · refine .inr ⟨k, by omega, rfl, hb, fun j hj hbj => ?_⟩
    rcases Nat.lt_or_ge j k with h | h
    · exact absurd hbj (h2 j h)
    · obtain rfl : j = k := by omega
      exact cmpL_irrefl _
  · omega
end Go.Proofs.YtlmnmgokfnnbbaaGreatDoor
end
