/- The parts Read, Deep, NodeB, OrdC of one proof, one behind the other. -/
import Derived.Test.YtlmnmgokfnnbbaaGreatDoorQ01
import Derived.Test.YtlmnmgokfnnbbaaGreatDoorQ05

/- Walk over the reference's tree reading. -/
section
set_option linter.unusedSimpArgs false
set_option linter.unusedVariables false
namespace Go.Proofs.YtlmnmgokfnnbbaaGreatDoor
open Go.RowKit Go.Cr
def RetNdY (d n : Nat) (l : List UInt8) (w : World) (e : Ending) (w' : World) : Prop := Below w.heap.size w w' ∧ ∃ (c1 c2 : Int) (c3 : Bool) (a4 a5 : Option Addr) (n4 k4 n5 k5 : Nat),
  e = .returned (.tuple #[.agg #[.int .i64 c1, .int .i64 c2, .bool c3, .slice a4 n4 k4, .slice a5 n5 k5], .int .i64 n, errV (0, 0)]) ∧
    IsNode (fun b => w.heap.size ≤ b) d w' [.int .i64 c1, .int .i64 c2, .bool c3, .slice a4 n4 k4, .slice a5 n5 k5] (l.take n)
def RetNdN (L : Nat) (w : World) (e : Ending) (w' : World) : Prop := Below w.heap.size w w' ∧ ∃ c o : Int, 0 < c ∧ 0 ≤ o ∧ o ≤ (L : Int) + 3000000 ∧ e = .returned (.tuple #[.agg #[.int .i64 0, .int .i64 0, .bool false, .slice none 0 0, .slice none 0 0], .int .i64 0, errV (c, o)])
def RetNd (r : Option Nat) (d : Nat) (l : List UInt8) (w : World) (e : Ending) (w' : World) : Prop := match r with
  | some n => RetNdY d n l w e w'
  | none => RetNdN l.length w e w'

set_option maxRecDepth 100000 in
set_option maxHeartbeats 4000000 in
theorem rRead_zero (v : Value) (L : Nat) (w : World) : Calls Tryz.prog 132 #[v, .int .i64 0] w (RetNdN L w) := by
  go_enter Tryz.func132, Tryz.ntmps132
  go_wp2_with fail
  refine bodyPost_ret (v := .tuple #[.agg #[.int .i64 0, .int .i64 0, .bool false, .slice none 0 0, .slice none 0 0], .int .i64 0, errV (5, 0)]) (by simp only [results, Tryz.results132]; go_simp) rfl ?_
  exact ⟨by ((repeat' (first | (with_reducible exact Below.refl _ _) | (with_reducible assumption) | (with_reducible refine Below.setCell ?_ ?_ _) | (with_reducible refine Below.alloc ?_ ?_ _) | (with_reducible refine Below.drew ?_) | (with_reducible refine below_drewN ?_ _) | (with_reducible refine Below.step (by with_reducible assumption) ?_ ?_))) <;> (first | omega | (simp; done) | (simp; omega))), 5, 0, by omega, by omega, by omega, rfl⟩

set_option maxRecDepth 100000 in
set_option maxHeartbeats 4000000 in
theorem rRead_err (d : Nat) (v : Value) (l : List UInt8) (w : World) (ec eo : Int) (hw : IsB w v l) (hL : l.length ≤ 1000000) (hd : d ≤ 100) (hr : nextH l = .error (ec, eo)) :
    Calls Tryz.prog 132 #[v, .int .i64 ((d : Int) + 1)] w (RetNdN l.length w) := by
  obtain ⟨hb1, hb2, hb3, hb4⟩ := nextH_err hr
  have H := Lib.hid (fun W (h : IsB W v l) => rNext_err v l W h hr)
  have HB := Lib.hid hw
  have hn : (ec == 0) = false := beq_eq_false_iff_ne.2 (by omega)
  have hn' : (ec != 0) = true := by simp; omega
  have hd1 : ((d : Int) + 1 == 0) = false := beq_eq_false_iff_ne.2 (by omega)
  simp only [hdrV, errV, Hdr.zero] at H
  clear hw hr
  go_enter Tryz.func132, Tryz.ntmps132
  go_wp2_with (first | (go_at_call 166; (with_reducible refine (H.out _ ((HB.out.alloc _).alloc _)).mono ?_); rintro e w1 ⟨rfl, hbw1⟩; obtain ⟨hcw1, hfw1⟩ := bcell hbw1; have hzw1 := hbw1.size; (try simp at hzw1); have hyw1 : w.heap.size < w1.heap.size := (by omega); (try have hyaw1 : w.heap.size + 1 < w1.heap.size := (by omega)); (try have hybw1 : w.heap.size + 2 < w1.heap.size := (by omega)); (try have hycw1 : w.heap.size + 3 < w1.heap.size := (by omega)); (try have hydw1 : w.heap.size + 4 < w1.heap.size := (by omega)); clear hzw1); have K0 := Blk.call ((Blk.new w 85 #[.int .i64 0, .int .i64 0, .bool false, .slice none 0 0, .slice none 0 0]).alloc (.cells #[.int .i64 0, .int .i64 0] 38)) hbw1; have lK0 := K0.lt; have qK0 := K0.q; have rK0 := K0.fz; have K0' := Lib.hid K0; clear K0; have K0 := K0'.out; clear K0'; have K1 := Blk.call (blk_in (t := 38) (cs := #[.int .i64 0, .int .i64 0]) (w := w.alloc (.cells #[.int .i64 0, .int .i64 0, .bool false, .slice none 0 0, .slice none 0 0] 85)) (g := w.heap.size + 1) (by simp)) hbw1; have lK1 := K1.lt; have qK1 := K1.q; have rK1 := K1.fz; have K1' := Lib.hid K1; clear K1; have K1 := K1'.out; clear K1')
  go_region
  go_wp2
  refine bodyPost_ret (v := .tuple #[.agg #[.int .i64 0, .int .i64 0, .bool false, .slice none 0 0, .slice none 0 0], .int .i64 0, errV (ec, eo)]) (by simp only [results, Tryz.results132]; go_simp) rfl ?_
  exact ⟨by ((repeat' (first | (with_reducible exact Below.refl _ _) | (with_reducible assumption) | (with_reducible refine Below.setCell ?_ ?_ _) | (with_reducible refine Below.alloc ?_ ?_ _) | (with_reducible refine Below.drew ?_) | (with_reducible refine below_drewN ?_ _) | (with_reducible refine Below.step (by with_reducible assumption) ?_ ?_))) <;> (first | omega | (simp; done) | (simp; omega))), ec, eo, by omega, by omega, by omega, rfl⟩

theorem own_lit0 {w : World} {g : Nat} (hg : g = w.heap.size) : OwB (w.alloc (.cells #[] 5)) g 5 (.slice (some ⟨g, 0, none⟩) 0 0) [] := by
  subst hg
  have := World.ownsRow_lit (base := w.heap.size) (e := 5) (size := 1) w #[] 0 (Nat.le_refl _) (by decide) rfl
  show OwB _ _ _ _ _
  simpa [OwB, bCells] using this
theorem seg_cont (l : List UInt8) (h : Hdr) : seg l h.size (h.size + h.len) = cont l h := by
  unfold seg cont
  congr 1
  omega

set_option maxRecDepth 100000 in
set_option maxHeartbeats 4000000 in
theorem rRead_prim (d : Nat) (v : Value) (l : List UInt8) (w : World) (hc hnm hln hsz : Int) (hw : IsB w v l) (hL : l.length ≤ 1000000) (hd : d ≤ 100) (hr : nextH l = .ok ⟨hc, hnm, false, hln, hsz⟩) :
    Calls Tryz.prog 132 #[v, .int .i64 ((d : Int) + 1)] w (RetNdY (d + 1) (hsz + hln).toNat l w) := by
  have hk := nextH_ok hr
  have hcl := cont_len hr
  have H0 := Lib.hid (fun W (h : IsB W v l) => rNext_good v l W h hr)
  have H : Hid (∀ W, IsB W v l → Calls Tryz.prog 166 #[v] W (fun e w' => ∃ c r, e = .returned (.tuple #[hdrV ⟨hc, hnm, false, hln, hsz⟩, c, r, errV (0, 0)]) ∧ IsB w' c (cont l ⟨hc, hnm, false, hln, hsz⟩) ∧ Below W.heap.size W w')) := fun W h => (H0.out W h).mono fun e w' ⟨c, r, he, h1, _, h2⟩ => ⟨c, r, he, by rw [← seg_cont]; exact h1, h2⟩
  have HB := Lib.hid hw
  have hd1 : ((d : Int) + 1 == 0) = false := beq_eq_false_iff_ne.2 (by omega)
  simp only at hk hcl
  obtain ⟨hk1, hk2, hk3, hk4⟩ := hk
  have htk := nextH_take (hsz + hln).toNat hr (by simp only; omega)
  have HTK := Lib.hid htk
  have hws : IntKind.i64.wrap (hsz + hln) = hsz + hln := IntWalk.i64_in _ (by omega)
  have hnn : (((hsz + hln).toNat : Nat) : Int) = hsz + hln := by omega
  have HNN := Lib.hid hnn
  have hclL : (cont l ⟨hc, hnm, false, hln, hsz⟩).length ≤ 1000000 := by omega
  simp only [hdrV, errV] at H
  clear hw hr H0 htk hnn hcl
  generalize cont l ⟨hc, hnm, false, hln, hsz⟩ = c at *
  go_enter Tryz.func132, Tryz.ntmps132
  go_wp2_with (first | ((go_at_call 166); (with_reducible refine (H.out _ ((HB.out.alloc _).alloc _)).mono ?_); rintro e w1 ⟨vc, vr, rfl, hvc, hbw1⟩; obtain ⟨A8, c8, rfl⟩ := isB_slice hvc; obtain ⟨hcw1, hfw1⟩ := bcell hbw1; have hzw1 := hbw1.size; (try simp at hzw1); have hyw1 : w.heap.size < w1.heap.size := (by omega); (try have hyaw1 : w.heap.size + 1 < w1.heap.size := (by omega)); (try have hybw1 : w.heap.size + 2 < w1.heap.size := (by omega)); (try have hycw1 : w.heap.size + 3 < w1.heap.size := (by omega)); (try have hydw1 : w.heap.size + 4 < w1.heap.size := (by omega)); clear hzw1; have K0 := Blk.call ((Blk.new w 85 #[.int .i64 0, .int .i64 0, .bool false, .slice none 0 0, .slice none 0 0]).alloc (.cells #[.int .i64 0, .int .i64 0] 38)) hbw1; have lK0 := K0.lt; have qK0 := K0.q; have rK0 := K0.fz; have K0' := Lib.hid K0; clear K0; have K0 := K0'.out; clear K0'; have K1 := Blk.call (blk_in (t := 38) (cs := #[.int .i64 0, .int .i64 0]) (w := w.alloc (.cells #[.int .i64 0, .int .i64 0, .bool false, .slice none 0 0, .slice none 0 0] 85)) (g := w.heap.size + 1) (by simp)) hbw1; have lK1 := K1.lt; have qK1 := K1.q; have rK1 := K1.fz; have K1' := Lib.hid K1; clear K1; have K1 := K1'.out; clear K1'; have HC := Lib.hid hvc; clear hvc) | (at_builtin; refine wpList_appB _ rfl _ _ 33 rfl (w1.heap.size + 1 + 1 + 1) 5 ulB infoB _ [] rfl (own_lit0 (by simp)) _ c rfl ((((HC.out.alloc _).alloc _).alloc _).alloc _) ?k1 ?k2 ?_))
  case k1 => simp; omega
  case k2 => simp
  intro v2 w2 ho2 _ hb2
  obtain ⟨A2, k2, rfl⟩ := isB_slice ho2.isB
  have HO2 := Lib.hid ho2
  have hs2 := hb2.size
  simp at hs2
  have hJ0 := ((((K0.alloc (.cells #[.int .i64 hc, .int .i64 hnm, .bool false, .int .i64 hln, .int .i64 hsz] 189)).alloc (.cells #[.int .i64 0, .int .i64 0] 38)).alloc (.cells #[.int .i64 hc, .int .i64 hnm, .bool false, .slice none 0 0, .slice none 0 0] 85)).alloc (.cells #[] 5)).below hb2 (by omega)
  have hJ1 := ((((K1.alloc (.cells #[.int .i64 hc, .int .i64 hnm, .bool false, .int .i64 hln, .int .i64 hsz] 189)).alloc (.cells #[.int .i64 0, .int .i64 0] 38)).alloc (.cells #[.int .i64 hc, .int .i64 hnm, .bool false, .slice none 0 0, .slice none 0 0] 85)).alloc (.cells #[] 5)).below hb2 (by omega)
  have hJ2 := ((((Blk.new w1 189 #[.int .i64 hc, .int .i64 hnm, .bool false, .int .i64 hln, .int .i64 hsz]).alloc (.cells #[.int .i64 0, .int .i64 0] 38)).alloc (.cells #[.int .i64 hc, .int .i64 hnm, .bool false, .slice none 0 0, .slice none 0 0] 85)).alloc (.cells #[] 5)).below hb2 (by omega)
  have hJ3 := ((blk_in (t := 85) (cs := #[.int .i64 hc, .int .i64 hnm, .bool false, .slice none 0 0, .slice none 0 0]) (w := (w1.alloc (.cells #[.int .i64 hc, .int .i64 hnm, .bool false, .int .i64 hln, .int .i64 hsz] 189)).alloc (.cells #[.int .i64 0, .int .i64 0] 38)) (g := w1.heap.size + 1 + 1) (by simp)).alloc (.cells #[] 5)).below hb2 (by omega)
  have q0 := hJ0.q
  have f0 := hJ0.fz
  have l0 := hJ0.lt
  have q1 := hJ1.q
  have f1 := hJ1.fz
  have l1 := hJ1.lt
  have q2 := hJ2.q
  have l2 := hJ2.lt
  have q3 := hJ3.q
  have f3 := hJ3.fz
  have l3 := hJ3.lt
  have HB2 := Lib.hid hb2
  clear ho2 hb2 hJ0 hJ1 hJ2 hJ3 qK0 rK0 qK1 rK1 K0 K1 lK0 lK1
  go_wp2
  go_region
  go_wp2
  refine bodyPost_ret (v := .tuple #[.agg #[.int .i64 hc, .int .i64 hnm, .bool false, .slice A2 c.length k2, .slice none 0 0], .int .i64 (hsz + hln), errV (0, 0)]) (by simp only [results, Tryz.results132]; go_simp) rfl ?_
  have hb2 := HB2.out
  have hz1 := hbw1.size
  simp at hz1
  have hb1 : Below w.heap.size w w1 := Below.trans (((Below.refl w.heap.size w).alloc (Nat.le_refl _) (.cells #[.int .i64 0, .int .i64 0, .bool false, .slice none 0 0, .slice none 0 0] 85)).alloc (by simp) (.cells #[.int .i64 0, .int .i64 0] 38)) (hbw1.mono (by simp; omega))
  have hb12 : Below w.heap.size w w2 := ((((hb1.alloc (by omega) _).alloc (by simp; omega) _).alloc (by simp; omega) _).alloc (by simp; omega) _).trans (hb2.mono (by omega))
  have ho := HO2.out
  clear hbw1 hb2 hb1 HO2 HB2 H HB
  refine ⟨by ((repeat' (first | (with_reducible exact Below.refl _ _) | (with_reducible assumption) | (with_reducible refine Below.setCell ?_ ?_ _) | (with_reducible refine Below.alloc ?_ ?_ _) | (with_reducible refine Below.drew ?_) | (with_reducible refine below_drewN ?_ _) | (with_reducible refine Below.step (by with_reducible assumption) ?_ ?_))) <;> (first | omega | (simp; done) | (simp; omega))), hc, hnm, false, _, _, _, _, _, _, by rw [HNN.out], ?_⟩
  refine ⟨⟨hc, hnm, false, hln, hsz⟩, _, _, [], [], HTK.out.1, ?_, rfl, ?_, IsRS.nil_ _ _ _, rfl, fun j hj => absurd hj (by simp)⟩
  · simp only [List.length_take]; omega
  · rw [HTK.out.2]
    simp only [Bool.false_eq_true, if_false]
    refine (IsRS.of_own (base := w1.heap.size + 1 + 1 + 1) (e := 5) (World.ownsRow.drew ?_)).weak (fun b _ h => by omega)
    have hlo : w.heap.size + 1 < w1.heap.size + 1 + 1 + 1 := by omega
    clear q0 f0 q1 f1 q2 q3 f3 HTK HC
    unfold OwB at ho
    repeat' (first | with_reducible exact ho | with_reducible refine ownsRow_setCell_below ?_ ?_ _)
    all_goals first | exact hlo | exact Nat.lt_of_succ_lt hlo | exact Nat.lt_succ_self _

theorem nodes_set {base d : Nat} {row : Option Nat} {w : World} {xs : List Value} {ks : List (List UInt8)} (h : IsNodes (But base row) d w xs ks) {a : Addr} (ha : a.block < base) (u : Value) : IsNodes (But base row) d (w.setCell a u) xs ks :=
  h.keep (by simp) fun b _ hS => Below.heap_setCell _ _ _ _ (by have := hS.1; omega)
theorem nodes_drew {base d : Nat} {row : Option Nat} {w : World} {xs : List Value} {ks : List (List UInt8)} (h : IsNodes (But base row) d w xs ks) : IsNodes (But base row) d w.drew xs ks := h.keep (Nat.le_refl _) fun _ _ _ => rfl

def NdRel (d : Nat) (c : List UInt8) (hc hnm hln hsz : Int) (Q : Bool) (g : Nat) (w w1 : World) (at_ : Value) (wr : World) : Prop :=
  ∃ (a : Nat) (ks : List (List UInt8)) (xs : List Value) (A : Option Addr) (cp : Nat), at_ = .int .i64 a ∧ a ≤ c.length ∧ ks.length ≤ a ∧ ks.flatten = c.take a ∧ fills d (c.drop a) = Q ∧
    Blk wr g 85 #[.int .i64 hc, .int .i64 hnm, .bool true, .slice none 0 0, .slice A ks.length cp] ∧ wr.ownsRow (g + 1) 85 5 (.slice A ks.length cp) ks.length xs ∧ IsNodes (But (g + 1) (Value.slice A ks.length cp).ownBlock) d wr xs ks ∧
    Blk wr w1.heap.size 189 #[.int .i64 hc, .int .i64 hnm, .bool true, .int .i64 hln, .int .i64 hsz] ∧
    Blk wr w.heap.size 85 #[.int .i64 0, .int .i64 0, .bool false, .slice none 0 0, .slice none 0 0] ∧ Blk wr (w.heap.size + 1) 38 #[.int .i64 0, .int .i64 0] ∧ Below w1.heap.size w1 wr

set_option maxRecDepth 100000 in
set_option maxHeartbeats 8000000 in
theorem rRead_con (d : Nat) (v : Value) (l : List UInt8) (w : World) (hc hnm hln hsz : Int) (hw : IsB w v l) (hL : l.length ≤ 1000000) (hd : d ≤ 100) (hr : nextH l = .ok ⟨hc, hnm, true, hln, hsz⟩)
    (ih : ∀ (v' : Value) (l' : List UInt8) (W : World), IsB W v' l' → l'.length ≤ 1000000 → Calls Tryz.prog 132 #[v', .int .i64 d] W (RetNd (readT d l') d l' W)) :
    Calls Tryz.prog 132 #[v, .int .i64 ((d : Int) + 1)] w (if fills d (cont l ⟨hc, hnm, true, hln, hsz⟩) then RetNdY (d + 1) (hsz + hln).toNat l w else RetNdN l.length w) := by
  have hk := nextH_ok hr
  have hcl := cont_len hr
  have H0 := Lib.hid (fun W (h : IsB W v l) => rNext_good v l W h hr)
  have H : Hid (∀ W, IsB W v l → Calls Tryz.prog 166 #[v] W (fun e w' => ∃ c r, e = .returned (.tuple #[hdrV ⟨hc, hnm, true, hln, hsz⟩, c, r, errV (0, 0)]) ∧ IsB w' c (cont l ⟨hc, hnm, true, hln, hsz⟩) ∧ Below W.heap.size W w')) := fun W h => (H0.out W h).mono fun e w' ⟨c, r, he, h1, _, h2⟩ => ⟨c, r, he, by rw [← seg_cont]; exact h1, h2⟩
  have HB := Lib.hid hw
  have HIH := Lib.hid ih
  have hd1 : ((d : Int) + 1 == 0) = false := beq_eq_false_iff_ne.2 (by omega)
  have hdw : IntKind.i64.wrap ((d : Int)) = d := IntWalk.i64_in _ (by omega)
  simp only at hk hcl
  obtain ⟨hk1, hk2, hk3, hk4⟩ := hk
  have htk := nextH_take (hsz + hln).toNat hr (by simp only; omega)
  have HTK := Lib.hid htk
  have hws : IntKind.i64.wrap (hsz + hln) = hsz + hln := IntWalk.i64_in _ (by omega)
  have hnn : (((hsz + hln).toNat : Nat) : Int) = hsz + hln := by omega
  have HNN := Lib.hid hnn
  have hclL : (cont l ⟨hc, hnm, true, hln, hsz⟩).length ≤ 1000000 := by omega
  simp only [hdrV, errV] at H
  clear hw hr H0 htk hnn ih
  generalize hcc : cont l ⟨hc, hnm, true, hln, hsz⟩ = c at *
  have HCC := Lib.hid hcc
  obtain ⟨Q, hQ⟩ : ∃ Q, fills d c = Q := ⟨_, rfl⟩
  rw [hQ]
  have HQ := Lib.hid hQ
  obtain ⟨P, hP⟩ : ∃ P, (if Q = true then RetNdY (d + 1) (hsz + hln).toNat l w else RetNdN l.length w) = P := ⟨_, rfl⟩
  rw [hP]
  have HP := Lib.hid hP
  clear hcc hQ hP
  go_enter Tryz.func132, Tryz.ntmps132
  go_wp2_with (first | ((go_at_call 166); (with_reducible refine (H.out _ ((HB.out.alloc _).alloc _)).mono ?_); rintro e w1 ⟨vc, vr, rfl, hvc, hbw1⟩; obtain ⟨A8, c8, rfl⟩ := isB_slice hvc; obtain ⟨hcw1, hfw1⟩ := bcell hbw1; have hzw1 := hbw1.size; (try simp at hzw1); have hyw1 : w.heap.size < w1.heap.size := (by omega); (try have hyaw1 : w.heap.size + 1 < w1.heap.size := (by omega)); (try have hybw1 : w.heap.size + 2 < w1.heap.size := (by omega)); (try have hycw1 : w.heap.size + 3 < w1.heap.size := (by omega)); (try have hydw1 : w.heap.size + 4 < w1.heap.size := (by omega)); clear hzw1; have K0 := Blk.call ((Blk.new w 85 #[.int .i64 0, .int .i64 0, .bool false, .slice none 0 0, .slice none 0 0]).alloc (.cells #[.int .i64 0, .int .i64 0] 38)) hbw1; have lK0 := K0.lt; have qK0 := K0.q; have rK0 := K0.fz; have K0' := Lib.hid K0; clear K0; have K0 := K0'.out; clear K0'; have K1 := Blk.call (blk_in (t := 38) (cs := #[.int .i64 0, .int .i64 0]) (w := w.alloc (.cells #[.int .i64 0, .int .i64 0, .bool false, .slice none 0 0, .slice none 0 0] 85)) (g := w.heap.size + 1) (by simp)) hbw1; have lK1 := K1.lt; have qK1 := K1.q; have rK1 := K1.fz; have K1' := Lib.hid K1; clear K1; have K1 := K1'.out; clear K1'; have HC := Lib.hid hvc; clear hvc))
  have KK0 := Lib.hid K0
  have KK1 := Lib.hid K1
  have hB1 := Lib.hid (Below.trans (((Below.refl w.heap.size w).alloc (Nat.le_refl _) (.cells #[.int .i64 0, .int .i64 0, .bool false, .slice none 0 0, .slice none 0 0] 85)).alloc (by simp) (.cells #[.int .i64 0, .int .i64 0] 38)) (hbw1.mono (by simp; omega)))
  clear K0 K1 qK0 rK0 lK0 qK1 rK1 lK1 hbw1 hcw1 hfw1
  generalize hG : w1.heap.size + 1 + 1 = G at *
  have HG := Lib.hid hG
  have hw1G : w1.heap.size < G := by omega
  have hw1G1 : w1.heap.size + 1 < G := by omega
  clear hG
  go_loopw [12] (fun bd wr => NdRel d c hc hnm hln hsz Q G w w1 bd wr) (fun bd _ => c.length - (intOf bd).toNat)
  case atStart =>
    refine ⟨0, [], [], none, 0, rfl, Nat.zero_le _, Nat.le_refl _, rfl, HQ.out, blk_in (by rw [← HG.out]; simp), World.ownsRow_nil _ _ _ _, IsNodes.nil_ _ _ _, ((Blk.new _ _ _).alloc _).alloc _, ((KK0.out.alloc _).alloc _).alloc _, ((KK1.out.alloc _).alloc _).alloc _, ?_⟩
    exact (((Below.refl _ _).alloc (by omega) _).alloc (by simp) _).alloc (by simp; omega) _
  case round =>
    obtain ⟨a, ks, xs, A, cp, rfl, hac, hka, hfl0, hfl, hK, hO, hN, hH, hK0, hK1, hbel⟩ := hrel
    obtain ⟨vt, hcut, hvt⟩ := (HC.out.below hbel).cutLo (P := Tryz.prog) ulB szB .i64 (lo := (a : Int)) (by omega) (by omega)
    rw [Int.toNat_natCast] at hvt
    have HVT := Lib.hid hvt
    have hhd := hH.q
    have hhf := hH.fz
    have HO1 := Lib.hid hO
    have HN1 := Lib.hid hN
    have HFL := Lib.hid hfl
    have HF0 := Lib.hid hfl0
    have HBR := Lib.hid hbel
    have KH := Lib.hid hH
    have hgl := hK.lt
    have KK := Lib.hid hK
    have KA0 := Lib.hid hK0
    have KA1 := Lib.hid hK1
    have hrs := hbel.size
    have hbw : Below w.heap.size w wr := hB1.out.trans (hbel.mono (by omega))
    have HBW := Lib.hid hbw
    clear hO hN hfl hfl0 hbel hK hK0 hK1 hH hvt hbw
    by_cases hlt : a < c.length
    · have hne : c.drop a ≠ [] := by intro h; have := congrArg List.length h; simp at this; omega
      have hi := HIH.out vt (c.drop a) wr HVT.out (by simp; omega)
      have hltI : (a : Int) < c.length := by omega
      cases hrd : readT d (c.drop a) with
      | none =>
        rw [hrd] at hi
        have hQf : Q = false := by rw [← HFL.out]; exact fills_none hne hrd
        have HI : Hid (Calls Tryz.prog 132 #[vt, .int .i64 d] wr (RetNdN (c.drop a).length wr)) := hi
        have hPP : P = RetNdN l.length w := by rw [← HP.out, hQf]; rfl
        have HPP := Lib.hid hPP
        have hdl : (c.drop a).length = c.length - a := by simp
        rw [hdl] at HI
        clear hi hrd hQf hne hPP hdl
        go_wp2_with (first | ((go_at_call 132); (with_reducible refine (HI.out).mono ?_); rintro e w2 ⟨hbw2, ec, eo, hec, heo, heo2, rfl⟩; obtain ⟨hcw2, hfw2⟩ := bcell hbw2; have J0 := Blk.call (KA0.out) hbw2; have lJ0 := J0.lt; have qJ0 := J0.q; have rJ0 := J0.fz; have J0' := Lib.hid J0; clear J0; have J0 := J0'.out; clear J0'; have J1 := Blk.call (KA1.out) hbw2; have lJ1 := J1.lt; have qJ1 := J1.q; have rJ1 := J1.fz; have J1' := Lib.hid J1; clear J1; have J1 := J1'.out; clear J1'; have JH := Blk.call (KH.out) hbw2; have lJH := JH.lt; have qJH := JH.q; have rJH := JH.fz; have JH' := Lib.hid JH; clear JH; have JH := JH'.out; clear JH'; have hn : (ec == 0) = false := beq_eq_false_iff_ne.2 (by omega); have hn' : (ec != 0) = true := (by simp; omega)))
        go_region
        go_wp2
        rw [HPP.out]
        refine bodyPost_ret (v := .tuple #[.agg #[.int .i64 0, .int .i64 0, .bool false, .slice none 0 0, .slice none 0 0], .int .i64 0, errV (ec, hsz + a + eo)]) (by simp only [results, Tryz.results132]; go_simp) rfl ?_
        have hb := HBW.out
        have hbs := HBW.out.size
        have hb2 : Below w.heap.size w w2 := hb.trans (hbw2.mono hbs)
        exact ⟨by ((repeat' (first | (with_reducible exact Below.refl _ _) | (with_reducible assumption) | (with_reducible refine Below.setCell ?_ ?_ _) | (with_reducible refine Below.alloc ?_ ?_ _) | (with_reducible refine Below.drew ?_) | (with_reducible refine below_drewN ?_ _) | (with_reducible refine Below.step (by with_reducible assumption) ?_ ?_))) <;> (first | omega | (simp; done) | (simp; omega))), ec, _, hec, by omega, by omega, rfl⟩
      | some n =>
        rw [hrd] at hi
        have hb := readT_bound hrd
        have hdl : (c.drop a).length = c.length - a := by simp
        rw [hdl] at hb
        have hfl2 : fills d (c.drop (a + n)) = Q := by
          rw [← HFL.out, fills_some hne hrd, List.drop_drop]
        have HF2 := Lib.hid hfl2
        have HI : Hid (Calls Tryz.prog 132 #[vt, .int .i64 d] wr (RetNdY d n (c.drop a) wr)) := hi
        have hn2 : 2 ≤ n := by omega
        have hane : a + n ≤ c.length := by omega
        obtain ⟨in0, hin, hzn0, hzn1, hzn2⟩ := info_parts infoNode
        clear hi hrd hne hfl2 hb hdl
        go_wp2_with (first | ((go_at_call 132); (with_reducible refine (HI.out).mono ?_); rintro e w2 ⟨hbw2, x1, x2, x3, y4, y5, m4, z4, m5, z5, rfl, hnd⟩; have J0 := Blk.call (KA0.out) hbw2; have lJ0 := J0.lt; have qJ0 := J0.q; have rJ0 := J0.fz; have J0' := Lib.hid J0; clear J0; have J0 := J0'.out; clear J0'; have J1 := Blk.call (KA1.out) hbw2; have lJ1 := J1.lt; have qJ1 := J1.q; have rJ1 := J1.fz; have J1' := Lib.hid J1; clear J1; have J1 := J1'.out; clear J1'; have JK := Blk.call (KK.out) hbw2; have lJK := JK.lt; have qJK := JK.q; have rJK := JK.fz; have JK' := Lib.hid JK; clear JK; have JK := JK'.out; clear JK'; have JH := Blk.call (KH.out) hbw2; have lJH := JH.lt; have qJH := JH.q; have rJH := JH.fz; have JH' := Lib.hid JH; clear JH; have JH := JH'.out; clear JH'; have hG1 : G < w2.heap.size + 1 := (by omega); have hG2 : G < w2.heap.size + 1 + 1 := (by omega); have HND := Lib.hid hnd; clear hnd; have HO2 := Lib.hid (ownsRow_below HO1.out hbw2); have HN2 := Lib.hid (HN1.out.below hbw2)) | (at_builtin; refine wpList_app2 _ rfl _ _ 83 rfl (G + 1) 85 in0 _ 5 72 ulNodes hin hzn0 hzn1 hzn2 rfl (by decide) _ _ _ rfl (((HO2.out.alloc _).alloc _).alloc _) _ 1 [.int .i64 x1, .int .i64 x2, .bool x3, .slice y4 m4 z4, .slice y5 m5 z5] rfl ?k0 ?k01 ?k1 ?k2 ?k3 ?_))
        case k0 => exact isR_at rfl (by simp)
        case k01 => intro u hu; simp at hu; rcases hu with rfl | rfl | rfl | rfl | rfl <;> rfl
        case k1 => unfold maxLen; omega
        case k2 => omega
        case k3 => simp; omega
        intro v3 w3 hown3 hgrow3 hbel3 hat3
        obtain ⟨A3, c3, rfl⟩ := own_slice hown3
        have hs2 := hbw2.size
        have hrow : ∀ b, b < w2.heap.size → wr.heap.size ≤ b → But (G + 1) (Value.slice A ks.length cp).ownBlock b := fun b _ h => ⟨by omega, fun e => by have := (HO1.out.lt _ e.symm).2; omega⟩
        have hbA : Below w2.heap.size w2 (((w2.alloc (.cells #[.int .i64 x1, .int .i64 x2, .bool x3, .slice y4 m4 z4, .slice y5 m5 z5] 85)).alloc (.cells #[.int .i64 0, .int .i64 0] 38)).alloc (.cells #[.int .i64 x1, .int .i64 x2, .bool x3, .slice y4 m4 z4, .slice y5 m5 z5] 85)) := (((Below.refl _ _).alloc (Nat.le_refl _) _).alloc (by simp) _).alloc (by simp; omega) _
        have hN3 : IsNodes (But (G + 1) (Value.slice A3 (ks.length + 1) c3).ownBlock) d w3 _ (ks ++ [(c.drop a).take n]) :=
          (((HN2.out.below hbA).snoc ((HND.out.weak hrow).below hbA) HND.out.tree rfl)).grown hgrow3 (by simpa using hat3)
        have hns : some w2.heap.size ≠ (Value.slice A ks.length cp).ownBlock := fun h => by have := (HO1.out.lt _ h.symm).2; omega
        have hK3 : Blk w3 G 85 _ := (((JK.alloc _).alloc _).alloc _).below hbel3 (Nat.lt_succ_self G)
        have hH3 : Blk w3 w1.heap.size 189 _ := (((JH.alloc _).alloc _).alloc _).below hbel3 (by omega)
        have hJ03 : Blk w3 w.heap.size 85 _ := (((J0.alloc _).alloc _).alloc _).below hbel3 (by omega)
        have hJ13 : Blk w3 (w.heap.size + 1) 38 _ := (((J1.alloc _).alloc _).alloc _).below hbel3 (by omega)
        have hbW3 : Below w1.heap.size w1 w3 := by
          have h1 := HBR.out.trans (hbw2.mono HBR.out.size)
          exact (((h1.alloc (by omega) _).alloc (by simp; omega) _).alloc (by simp; omega) _).trans (hbel3.mono (by omega))
        have hq3 := hK3.q
        have hf3 := hK3.fz
        have hl3 := hK3.lt
        have HK3 := Lib.hid hK3
        have HH3 := Lib.hid hH3
        have HJ03 := Lib.hid hJ03
        have HJ13 := Lib.hid hJ13
        have HBW3 := Lib.hid hbW3
        have HN3 := Lib.hid hN3
        have HO3 := Lib.hid hown3
        clear hK3 hH3 hJ03 hJ13 hbW3 hN3 hown3 hgrow3 hbel3 hat3 hns hrow hbA qJK rJK qJ0 rJ0 qJ1 rJ1 qJH rJH JK J0 J1 JH lJK lJ0 lJ1 lJH hhd hhf
        go_wp2
        go_roundw
        case rel =>
          refine ⟨a + n, ks ++ [(c.drop a).take n], xs ++ [.int .i64 x1, .int .i64 x2, .bool x3, .slice y4 m4 z4, .slice y5 m5 z5], A3, c3, by go_num, hane, ?_, ?_, HF2.out, ?_, ?_, ?_, HH3.out.far (p := ⟨G, 4, none⟩) (show w1.heap.size ≠ G by omega) _, HJ03.out.far (p := ⟨G, 4, none⟩) (show w.heap.size ≠ G by omega) _, HJ13.out.far (p := ⟨G, 4, none⟩) (show w.heap.size + 1 ≠ G by omega) _, HBW3.out.setCell (p := ⟨G, 4, none⟩) (Nat.le_of_lt hw1G) _⟩
          · simp; omega
          · rw [List.flatten_append, HF0.out, List.take_add]; simp
          · have := HK3.out.set_ 4 (.slice A3 (ks.length + 1) c3)
            simpa using this
          · have := ownsRow_setCell_below (a := ⟨G, 4, none⟩) HO3.out (Nat.lt_succ_self G) (.slice A3 (ks.length + 1) c3)
            simpa using this
          · have := nodes_set (a := ⟨G, 4, none⟩) HN3.out (Nat.lt_succ_self G) (.slice A3 (ks.length + 1) c3)
            simpa using this
        case measure => simp [intOf]; omega
    · have hea : a = c.length := by omega
      have hQt : Q = true := by
        rw [← HFL.out, hea, List.drop_length]
        rfl
      have hPP : P = RetNdY (d + 1) (hsz + hln).toNat l w := by rw [← HP.out, hQt]; rfl
      have HPP := Lib.hid hPP
      have hge : (c.length : Int) ≤ a := by omega
      have hq0 := KA0.out.q
      have hf0 := KA0.out.fz
      have hl0 := KA0.out.lt
      have hq1 := KA1.out.q
      have hf1 := KA1.out.fz
      have hl1 := KA1.out.lt
      have hq2 := KK.out.q
      have hf2 := KK.out.fz
      clear hlt hea hQt hPP
      go_wp2_with fail
      go_region
      go_wp2
      rw [HPP.out]
      refine bodyPost_ret (v := .tuple #[.agg #[.int .i64 hc, .int .i64 hnm, .bool true, .slice none 0 0, .slice A ks.length cp], .int .i64 (hsz + hln), errV (0, 0)]) (by simp only [results, Tryz.results132]; go_simp) rfl ?_
      have hb := HBW.out
      have hbs := HBW.out.size
      have hea : a = c.length := by omega
      have ho := HO1.out
      have hN := HN1.out
      have hf := HF0.out
      rw [hea, List.take_length] at hf
      refine ⟨by ((repeat' (first | (with_reducible exact Below.refl _ _) | (with_reducible assumption) | (with_reducible refine Below.setCell ?_ ?_ _) | (with_reducible refine Below.alloc ?_ ?_ _) | (with_reducible refine Below.drew ?_) | (with_reducible refine below_drewN ?_ _) | (with_reducible refine Below.step (by with_reducible assumption) ?_ ?_))) <;> (first | omega | (simp; done) | (simp; omega))), hc, hnm, true, _, _, _, _, _, _, by rw [HNN.out], ?_⟩
      refine ⟨⟨hc, hnm, true, hln, hsz⟩, _, _, ks, xs, HTK.out.1, ?_, rfl, ?_, ?_, ?_, ?_⟩
      · simp only [List.length_take]; omega
      · exact IsRS.nil_ _ _ _
      · refine (IsRS.of_own (base := G + 1) (e := 85) (World.ownsRow.drew ?_)).weak (fun b _ h => by omega)
        have hlo : w.heap.size + 1 < G + 1 := by omega
        clear hhd hhf hq0 hf0 hl0 hq1 hf1 hl1 hq2 hf2
        repeat' (first | with_reducible exact ho | with_reducible refine ownsRow_setCell_below ?_ ?_ _)
        all_goals first | exact hlo | exact Nat.lt_of_succ_lt hlo
      · rw [if_pos rfl, HTK.out.2]; exact hf
      · have hlo : w.heap.size + 1 < G + 1 := by omega
        clear hhd hhf hq0 hf0 hl0 hq1 hf1 hl1 hq2 hf2
        have hN2 := hN
        suffices hx : IsNodes (But (G + 1) (Value.slice A ks.length cp).ownBlock) d _ xs ks from fun j hj => ⟨(hx.2 j hj).1, (hx.2 j hj).2.weak fun b _ hS => by have := hS.1; omega⟩
        refine nodes_drew ?_
        repeat' (first | with_reducible exact hN | with_reducible refine nodes_set ?_ ?_ _)
        all_goals first | exact hlo | exact Nat.lt_of_succ_lt hlo
end Go.Proofs.YtlmnmgokfnnbbaaGreatDoor
end

/- The reference's Read, Within, Parse, Deep, Open. -/
section
set_option linter.unusedSimpArgs false
set_option linter.unusedVariables false
namespace Go.Proofs.YtlmnmgokfnnbbaaGreatDoor
open Go.RowKit Go.Cr
theorem rRead_any (d : Nat) : d ≤ 60 → ∀ (v : Value) (l : List UInt8) (w : World), IsB w v l → l.length ≤ 1000000 →
    Calls Tryz.prog 132 #[v, .int .i64 d] w (RetNd (readT d l) d l w) := by
  induction d with
  | zero =>
    intro _ v l w hw hL
    exact rRead_zero v l.length w
  | succ d ih =>
    intro hd v l w hw hL
    rw [show (((d + 1 : Nat)) : Int) = (d : Int) + 1 by omega]
    cases hr : nextH l with
    | error er =>
      obtain ⟨ec, eo⟩ := er
      rw [readT_err hr]
      exact rRead_err d v l w ec eo hw hL (by omega) hr
    | ok h =>
      obtain ⟨hc, hnm, hcn, hln, hsz⟩ := h
      cases hcn with
      | false =>
        rw [readT_prim hr rfl]
        exact rRead_prim d v l w hc hnm hln hsz hw hL (by omega) hr
      | true =>
        rw [readT_con hr rfl]
        have := rRead_con d v l w hc hnm hln hsz hw hL (by omega) hr (fun v' l' W h1 h2 => ih (by omega) v' l' W h1 h2)
        refine this.mono fun e w' h => ?_
        split at h
        · rename_i hf
          rw [if_pos hf]
          exact h
        · rename_i hf
          rw [if_neg hf]
          exact h

theorem node_set {base d : Nat} {w : World} {cs : List Value} {l : List UInt8} (h : IsNode (fun b => base ≤ b) d w cs l) {a : Addr} (ha : a.block < base) (u : Value) : IsNode (fun b => base ≤ b) d (w.setCell a u) cs l :=
  h.keep (by simp) fun b _ hS => Below.heap_setCell _ _ _ _ (by have hS' : base ≤ b := hS; omega)
theorem node_drew {S : Nat → Prop} {d : Nat} {w : World} {cs : List Value} {l : List UInt8} (h : IsNode S d w cs l) : IsNode S d w.drew cs l := h.keep (Nat.le_refl _) fun _ _ _ => rfl
theorem node_alloc {S : Nat → Prop} {d : Nat} {w : World} {cs : List Value} {l : List UInt8} (h : IsNode S d w cs l) (o : Obj) : IsNode S d (w.alloc o) cs l := h.below ((Below.refl _ _).alloc (Nat.le_refl _) o)

def RetWY (d : Nat) (l : List UInt8) (w : World) (e : Ending) (w' : World) : Prop := Below w.heap.size w w' ∧ ∃ (c1 c2 : Int) (c3 : Bool) (a4 a5 : Option Addr) (n4 k4 n5 k5 : Nat),
  e = .returned (.tuple #[.agg #[.int .i64 c1, .int .i64 c2, .bool c3, .slice a4 n4 k4, .slice a5 n5 k5], errV (0, 0)]) ∧
    IsNode (fun b => w.heap.size ≤ b) d w' [.int .i64 c1, .int .i64 c2, .bool c3, .slice a4 n4 k4, .slice a5 n5 k5] l
def RetWN (w : World) (e : Ending) (w' : World) : Prop := Below w.heap.size w w' ∧ ∃ c o : Int, 0 < c ∧ e = .returned (.tuple #[.agg #[.int .i64 0, .int .i64 0, .bool false, .slice none 0 0, .slice none 0 0], errV (c, o)])

set_option maxRecDepth 100000 in
set_option maxHeartbeats 4000000 in
theorem rWithin_yes (d : Nat) (hd : d ≤ 60) (v : Value) (l : List UInt8) (w : World) (hw : IsB w v l) (hL : l.length ≤ 1000000) (ht : treeOK d l) :
    Calls Tryz.prog 99 #[v, .int .i64 d] w (RetWY d l w) := by
  have hlen := hw.len ulB
  have H : Hid (∀ W, IsB W v l → Calls Tryz.prog 132 #[v, .int .i64 d] W (RetNdY d l.length l W)) := by
    intro W hW
    have := rRead_any d hd v l W hW hL
    unfold treeOK at ht
    rwa [ht] at this
  have HB := Lib.hid hw
  have hdd : decide (l.length < l.length) = false := decide_eq_false (by omega)
  have htl : l.take l.length = l := List.take_length
  have HTL := Lib.hid htl
  clear hw ht htl
  go_enter Tryz.func99, Tryz.ntmps99
  go_wp2_with (first | ((go_at_call 132); (with_reducible refine (H.out _ ((HB.out.alloc _).alloc _)).mono ?_); rintro e w1 ⟨hbw1, x1, x2, x3, y4, y5, m4, z4, m5, z5, rfl, hnd⟩; obtain ⟨hcw1, hfw1⟩ := bcell hbw1; have hzw1 := hbw1.size; (try simp at hzw1); have hyw1 : w.heap.size < w1.heap.size := (by omega); (try have hyaw1 : w.heap.size + 1 < w1.heap.size := (by omega)); (try have hybw1 : w.heap.size + 2 < w1.heap.size := (by omega)); (try have hycw1 : w.heap.size + 3 < w1.heap.size := (by omega)); (try have hydw1 : w.heap.size + 4 < w1.heap.size := (by omega)); clear hzw1; have K0 := Blk.call ((Blk.new w 85 #[.int .i64 0, .int .i64 0, .bool false, .slice none 0 0, .slice none 0 0]).alloc (.cells #[.int .i64 0, .int .i64 0] 38)) hbw1; have lK0 := K0.lt; have qK0 := K0.q; have rK0 := K0.fz; have K0' := Lib.hid K0; clear K0; have K0 := K0'.out; clear K0'; have K1 := Blk.call (blk_in (t := 38) (cs := #[.int .i64 0, .int .i64 0]) (w := w.alloc (.cells #[.int .i64 0, .int .i64 0, .bool false, .slice none 0 0, .slice none 0 0] 85)) (g := w.heap.size + 1) (by simp)) hbw1; have lK1 := K1.lt; have qK1 := K1.q; have rK1 := K1.fz; have K1' := Lib.hid K1; clear K1; have K1 := K1'.out; clear K1'; have HND := Lib.hid hnd; clear hnd))
  go_region
  go_wp2
  refine bodyPost_ret (v := .tuple #[.agg #[.int .i64 x1, .int .i64 x2, .bool x3, .slice y4 m4 z4, .slice y5 m5 z5], errV (0, 0)]) (by simp only [results, Tryz.results99]; go_simp) rfl ?_
  have hnd := HND.out
  have hlo : w.heap.size + 1 < w.heap.size + 1 + 1 := Nat.lt_succ_self _
  refine ⟨by ((repeat' (first | (with_reducible exact Below.refl _ _) | (with_reducible assumption) | (with_reducible refine Below.setCell ?_ ?_ _) | (with_reducible refine Below.alloc ?_ ?_ _) | (with_reducible refine Below.drew ?_) | (with_reducible refine below_drewN ?_ _) | (with_reducible refine Below.step (by with_reducible assumption) ?_ ?_))) <;> (first | omega | (simp; done) | (simp; omega))), x1, x2, x3, y4, y5, m4, z4, m5, z5, rfl, ?_⟩
  rw [HTL.out] at hnd
  have hnd2 : IsNode (fun b => w.heap.size + 1 + 1 ≤ b) d w1 [.int .i64 x1, .int .i64 x2, .bool x3, .slice y4 m4 z4, .slice y5 m5 z5] l := hnd.weak fun b _ h => by simpa using h
  clear hnd
  refine IsNode.weak (S := fun b => w.heap.size + 1 + 1 ≤ b) ?_ (fun b _ h => by omega)
  ((repeat' (first | with_reducible exact hnd2 | with_reducible refine node_drew ?_ | with_reducible refine node_alloc ?_ _ | with_reducible refine node_set ?_ ?_ _)); (all_goals first | exact hlo | exact Nat.lt_of_succ_lt hlo))

set_option maxRecDepth 100000 in
set_option maxHeartbeats 4000000 in
theorem rWithin_no (d : Nat) (hd : d ≤ 60) (v : Value) (l : List UInt8) (w : World) (hw : IsB w v l) (hL : l.length ≤ 1000000) (ht : ¬ treeOK d l) :
    Calls Tryz.prog 99 #[v, .int .i64 d] w (RetWN w) := by
  have hlen := hw.len ulB
  have HB := Lib.hid hw
  cases hr : readT d l with
  | none =>
    have H : Hid (∀ W, IsB W v l → Calls Tryz.prog 132 #[v, .int .i64 d] W (RetNdN l.length W)) := by
      intro W hW
      have := rRead_any d hd v l W hW hL
      rwa [hr] at this
    clear hw ht hr
    go_enter Tryz.func99, Tryz.ntmps99
    go_wp2_with (first | ((go_at_call 132); (with_reducible refine (H.out _ ((HB.out.alloc _).alloc _)).mono ?_); rintro e w1 ⟨hbw1, ec, eo, hec, heo, heo2, rfl⟩; obtain ⟨hcw1, hfw1⟩ := bcell hbw1; have hzw1 := hbw1.size; (try simp at hzw1); have hyw1 : w.heap.size < w1.heap.size := (by omega); (try have hyaw1 : w.heap.size + 1 < w1.heap.size := (by omega)); (try have hybw1 : w.heap.size + 2 < w1.heap.size := (by omega)); (try have hycw1 : w.heap.size + 3 < w1.heap.size := (by omega)); (try have hydw1 : w.heap.size + 4 < w1.heap.size := (by omega)); clear hzw1; have K0 := Blk.call ((Blk.new w 85 #[.int .i64 0, .int .i64 0, .bool false, .slice none 0 0, .slice none 0 0]).alloc (.cells #[.int .i64 0, .int .i64 0] 38)) hbw1; have lK0 := K0.lt; have qK0 := K0.q; have rK0 := K0.fz; have K0' := Lib.hid K0; clear K0; have K0 := K0'.out; clear K0'; have K1 := Blk.call (blk_in (t := 38) (cs := #[.int .i64 0, .int .i64 0]) (w := w.alloc (.cells #[.int .i64 0, .int .i64 0, .bool false, .slice none 0 0, .slice none 0 0] 85)) (g := w.heap.size + 1) (by simp)) hbw1; have lK1 := K1.lt; have qK1 := K1.q; have rK1 := K1.fz; have K1' := Lib.hid K1; clear K1; have K1 := K1'.out; clear K1'; have hn : (ec == 0) = false := beq_eq_false_iff_ne.2 (by omega); have hn' : (ec != 0) = true := (by simp; omega)))
    go_region
    go_wp2
    refine bodyPost_ret (v := .tuple #[.agg #[.int .i64 0, .int .i64 0, .bool false, .slice none 0 0, .slice none 0 0], errV (ec, eo)]) (by simp only [results, Tryz.results99]; go_simp) rfl ?_
    exact ⟨by ((repeat' (first | (with_reducible exact Below.refl _ _) | (with_reducible assumption) | (with_reducible refine Below.setCell ?_ ?_ _) | (with_reducible refine Below.alloc ?_ ?_ _) | (with_reducible refine Below.drew ?_) | (with_reducible refine below_drewN ?_ _) | (with_reducible refine Below.step (by with_reducible assumption) ?_ ?_))) <;> (first | omega | (simp; done) | (simp; omega))), ec, eo, hec, rfl⟩
  | some n =>
    have hb := readT_bound hr
    have hne : n ≠ l.length := fun h => ht (by unfold treeOK; rw [hr, h])
    have H : Hid (∀ W, IsB W v l → Calls Tryz.prog 132 #[v, .int .i64 d] W (RetNdY d n l W)) := by
      intro W hW
      have := rRead_any d hd v l W hW hL
      rwa [hr] at this
    have hlt : (n : Int) < l.length := by omega
    have hdd : decide (n < l.length) = true := decide_eq_true (by omega)
    clear hw ht hr
    go_enter Tryz.func99, Tryz.ntmps99
    go_wp2_with (first | ((go_at_call 132); (with_reducible refine (H.out _ ((HB.out.alloc _).alloc _)).mono ?_); rintro e w1 ⟨hbw1, x1, x2, x3, y4, y5, m4, z4, m5, z5, rfl, hnd⟩; obtain ⟨hcw1, hfw1⟩ := bcell hbw1; have hzw1 := hbw1.size; (try simp at hzw1); have hyw1 : w.heap.size < w1.heap.size := (by omega); (try have hyaw1 : w.heap.size + 1 < w1.heap.size := (by omega)); (try have hybw1 : w.heap.size + 2 < w1.heap.size := (by omega)); (try have hycw1 : w.heap.size + 3 < w1.heap.size := (by omega)); (try have hydw1 : w.heap.size + 4 < w1.heap.size := (by omega)); clear hzw1; have K0 := Blk.call ((Blk.new w 85 #[.int .i64 0, .int .i64 0, .bool false, .slice none 0 0, .slice none 0 0]).alloc (.cells #[.int .i64 0, .int .i64 0] 38)) hbw1; have lK0 := K0.lt; have qK0 := K0.q; have rK0 := K0.fz; have K0' := Lib.hid K0; clear K0; have K0 := K0'.out; clear K0'; have K1 := Blk.call (blk_in (t := 38) (cs := #[.int .i64 0, .int .i64 0]) (w := w.alloc (.cells #[.int .i64 0, .int .i64 0, .bool false, .slice none 0 0, .slice none 0 0] 85)) (g := w.heap.size + 1) (by simp)) hbw1; have lK1 := K1.lt; have qK1 := K1.q; have rK1 := K1.fz; have K1' := Lib.hid K1; clear K1; have K1 := K1'.out; clear K1'; clear hnd))
    refine bodyPost_ret (v := .tuple #[.agg #[.int .i64 0, .int .i64 0, .bool false, .slice none 0 0, .slice none 0 0], errV (2, n)]) (by simp only [results, Tryz.results99]; go_simp) rfl ?_
    exact ⟨by ((repeat' (first | (with_reducible exact Below.refl _ _) | (with_reducible assumption) | (with_reducible refine Below.setCell ?_ ?_ _) | (with_reducible refine Below.alloc ?_ ?_ _) | (with_reducible refine Below.drew ?_) | (with_reducible refine below_drewN ?_ _) | (with_reducible refine Below.step (by with_reducible assumption) ?_ ?_))) <;> (first | omega | (simp; done) | (simp; omega))), 2, n, by omega, rfl⟩

set_option maxRecDepth 100000 in
set_option maxHeartbeats 4000000 in
theorem rParse_yes (v : Value) (l : List UInt8) (w : World) (hw : IsB w v l) (hL : l.length ≤ 1000000) (ht : treeOK 16 l) :
    Calls Tryz.prog 131 #[v] w (RetPY w) := by
  have H : Hid (∀ W, IsB W v l → Calls Tryz.prog 99 #[v, .int .i64 16] W (RetWY 16 l W)) := fun W h => rWithin_yes 16 (by decide) v l W h hL ht
  have HB := Lib.hid hw
  clear hw ht
  go_enter Tryz.func131, Tryz.ntmps131
  go_wp2_with (first | ((go_at_call 99); (with_reducible refine (H.out _ ((HB.out.alloc _).alloc _)).mono ?_); rintro e w1 ⟨hbw1, x1, x2, x3, y4, y5, m4, z4, m5, z5, rfl, hnd⟩; obtain ⟨hcw1, hfw1⟩ := bcell hbw1; have hzw1 := hbw1.size; (try simp at hzw1); have hyw1 : w.heap.size < w1.heap.size := (by omega); (try have hyaw1 : w.heap.size + 1 < w1.heap.size := (by omega)); (try have hybw1 : w.heap.size + 2 < w1.heap.size := (by omega)); (try have hycw1 : w.heap.size + 3 < w1.heap.size := (by omega)); (try have hydw1 : w.heap.size + 4 < w1.heap.size := (by omega)); clear hzw1; have K0 := Blk.call ((Blk.new w 85 #[.int .i64 0, .int .i64 0, .bool false, .slice none 0 0, .slice none 0 0]).alloc (.cells #[.int .i64 0, .int .i64 0] 38)) hbw1; have lK0 := K0.lt; have qK0 := K0.q; have rK0 := K0.fz; have K0' := Lib.hid K0; clear K0; have K0 := K0'.out; clear K0'; have K1 := Blk.call (blk_in (t := 38) (cs := #[.int .i64 0, .int .i64 0]) (w := w.alloc (.cells #[.int .i64 0, .int .i64 0, .bool false, .slice none 0 0, .slice none 0 0] 85)) (g := w.heap.size + 1) (by simp)) hbw1; have lK1 := K1.lt; have qK1 := K1.q; have rK1 := K1.fz; have K1' := Lib.hid K1; clear K1; have K1 := K1'.out; clear K1'; clear hnd))
  refine bodyPost_ret (v := .tuple #[.agg #[.int .i64 x1, .int .i64 x2, .bool x3, .slice y4 m4 z4, .slice y5 m5 z5], errV (0, 0)]) (by simp only [results, Tryz.results131]; go_simp) rfl ?_
  exact ⟨by ((repeat' (first | (with_reducible exact Below.refl _ _) | (with_reducible assumption) | (with_reducible refine Below.setCell ?_ ?_ _) | (with_reducible refine Below.alloc ?_ ?_ _) | (with_reducible refine Below.drew ?_) | (with_reducible refine below_drewN ?_ _) | (with_reducible refine Below.step (by with_reducible assumption) ?_ ?_))) <;> (first | omega | (simp; done) | (simp; omega))), x1, x2, x3, y4, y5, m4, z4, m5, z5, rfl⟩

set_option maxRecDepth 100000 in
set_option maxHeartbeats 4000000 in
theorem rParse_no (v : Value) (l : List UInt8) (w : World) (hw : IsB w v l) (hL : l.length ≤ 1000000) (ht : ¬ treeOK 16 l) :
    Calls Tryz.prog 131 #[v] w (RetWN w) := by
  have H : Hid (∀ W, IsB W v l → Calls Tryz.prog 99 #[v, .int .i64 16] W (RetWN W)) := fun W h => rWithin_no 16 (by decide) v l W h hL ht
  have HB := Lib.hid hw
  clear hw ht
  go_enter Tryz.func131, Tryz.ntmps131
  go_wp2_with (first | ((go_at_call 99); (with_reducible refine (H.out _ ((HB.out.alloc _).alloc _)).mono ?_); rintro e w1 ⟨hbw1, ec, eo, hec, rfl⟩; obtain ⟨hcw1, hfw1⟩ := bcell hbw1; have hzw1 := hbw1.size; (try simp at hzw1); have hyw1 : w.heap.size < w1.heap.size := (by omega); (try have hyaw1 : w.heap.size + 1 < w1.heap.size := (by omega)); (try have hybw1 : w.heap.size + 2 < w1.heap.size := (by omega)); (try have hycw1 : w.heap.size + 3 < w1.heap.size := (by omega)); (try have hydw1 : w.heap.size + 4 < w1.heap.size := (by omega)); clear hzw1; have K0 := Blk.call ((Blk.new w 85 #[.int .i64 0, .int .i64 0, .bool false, .slice none 0 0, .slice none 0 0]).alloc (.cells #[.int .i64 0, .int .i64 0] 38)) hbw1; have lK0 := K0.lt; have qK0 := K0.q; have rK0 := K0.fz; have K0' := Lib.hid K0; clear K0; have K0 := K0'.out; clear K0'; have K1 := Blk.call (blk_in (t := 38) (cs := #[.int .i64 0, .int .i64 0]) (w := w.alloc (.cells #[.int .i64 0, .int .i64 0, .bool false, .slice none 0 0, .slice none 0 0] 85)) (g := w.heap.size + 1) (by simp)) hbw1; have lK1 := K1.lt; have qK1 := K1.q; have rK1 := K1.fz; have K1' := Lib.hid K1; clear K1; have K1 := K1'.out; clear K1'))
  refine bodyPost_ret (v := .tuple #[.agg #[.int .i64 0, .int .i64 0, .bool false, .slice none 0 0, .slice none 0 0], errV (ec, eo)]) (by simp only [results, Tryz.results131]; go_simp) rfl ?_
  exact ⟨by ((repeat' (first | (with_reducible exact Below.refl _ _) | (with_reducible assumption) | (with_reducible refine Below.setCell ?_ ?_ _) | (with_reducible refine Below.alloc ?_ ?_ _) | (with_reducible refine Below.drew ?_) | (with_reducible refine below_drewN ?_ _) | (with_reducible refine Below.step (by with_reducible assumption) ?_ ?_))) <;> (first | omega | (simp; done) | (simp; omega))), ec, eo, hec, rfl⟩

def RetDY (d : Nat) (l : List UInt8) (w : World) (e : Ending) (w' : World) : Prop := Below w.heap.size w w' ∧ ∃ (c1 c2 : Int) (c3 : Bool) (a4 a5 : Option Addr) (n4 k4 n5 k5 : Nat),
  e = .returned (.tuple #[.agg #[.int .i64 c1, .int .i64 c2, .bool c3, .slice a4 n4 k4, .slice a5 n5 k5], .bool true]) ∧
    IsNode (fun b => w.heap.size ≤ b) d w' [.int .i64 c1, .int .i64 c2, .bool c3, .slice a4 n4 k4, .slice a5 n5 k5] l

set_option maxRecDepth 100000 in
set_option maxHeartbeats 4000000 in
theorem rDeep_yes (v : Value) (l : List UInt8) (w : World) (hw : IsB w v l) (hL : l.length ≤ 1000000) (ht : treeOK 60 l) :
    Calls Tryz.prog 61 #[v] w (RetDY 60 l w) := by
  have H : Hid (∀ W, IsB W v l → Calls Tryz.prog 99 #[v, .int .i64 60] W (RetWY 60 l W)) := fun W h => rWithin_yes 60 (by decide) v l W h hL ht
  have HB := Lib.hid hw
  clear hw ht
  go_enter Tryz.func61, Tryz.ntmps61
  go_wp2_with (first | ((go_at_call 99); (with_reducible refine (H.out _ (HB.out.alloc _)).mono ?_); rintro e w1 ⟨hbw1, x1, x2, x3, y4, y5, m4, z4, m5, z5, rfl, hnd⟩; obtain ⟨hcw1, hfw1⟩ := bcell hbw1; have hzw1 := hbw1.size; (try simp at hzw1); have hyw1 : w.heap.size < w1.heap.size := (by omega); (try have hyaw1 : w.heap.size + 1 < w1.heap.size := (by omega)); (try have hybw1 : w.heap.size + 2 < w1.heap.size := (by omega)); (try have hycw1 : w.heap.size + 3 < w1.heap.size := (by omega)); (try have hydw1 : w.heap.size + 4 < w1.heap.size := (by omega)); clear hzw1; have K0 := Blk.call (Blk.new w 85 #[.int .i64 0, .int .i64 0, .bool false, .slice none 0 0, .slice none 0 0]) hbw1; have lK0 := K0.lt; have qK0 := K0.q; have rK0 := K0.fz; have K0' := Lib.hid K0; clear K0; have K0 := K0'.out; clear K0'; have HND := Lib.hid hnd; clear hnd))
  go_region
  go_wp2
  refine bodyPost_ret (v := .tuple #[.agg #[.int .i64 x1, .int .i64 x2, .bool x3, .slice y4 m4 z4, .slice y5 m5 z5], .bool true]) (by simp only [results, Tryz.results61]; go_simp) rfl ?_
  have hnd := HND.out
  have hlo : w.heap.size < w.heap.size + 1 := Nat.lt_succ_self _
  refine ⟨by ((repeat' (first | (with_reducible exact Below.refl _ _) | (with_reducible assumption) | (with_reducible refine Below.setCell ?_ ?_ _) | (with_reducible refine Below.alloc ?_ ?_ _) | (with_reducible refine Below.drew ?_) | (with_reducible refine below_drewN ?_ _) | (with_reducible refine Below.step (by with_reducible assumption) ?_ ?_))) <;> (first | omega | (simp; done) | (simp; omega))), x1, x2, x3, y4, y5, m4, z4, m5, z5, rfl, ?_⟩
  have hnd2 : IsNode (fun b => w.heap.size + 1 ≤ b) 60 w1 [.int .i64 x1, .int .i64 x2, .bool x3, .slice y4 m4 z4, .slice y5 m5 z5] l := hnd.weak fun b _ h => by simpa using h
  clear hnd
  refine IsNode.weak (S := fun b => w.heap.size + 1 ≤ b) ?_ (fun b _ h => by omega)
  ((repeat' (first | with_reducible exact hnd2 | with_reducible refine node_drew ?_ | with_reducible refine node_alloc ?_ _ | with_reducible refine node_set ?_ ?_ _)); (all_goals first | exact hlo | exact Nat.lt_of_succ_lt hlo))

set_option maxRecDepth 100000 in
set_option maxHeartbeats 4000000 in
theorem rDeep_no (v : Value) (l : List UInt8) (w : World) (hw : IsB w v l) (hL : l.length ≤ 1000000) (ht : ¬ treeOK 60 l) :
    Calls Tryz.prog 61 #[v] w (RetB (.tuple #[.agg #[.int .i64 0, .int .i64 0, .bool false, .slice none 0 0, .slice none 0 0], .bool false]) w) := by
  have H : Hid (∀ W, IsB W v l → Calls Tryz.prog 99 #[v, .int .i64 60] W (RetWN W)) := fun W h => rWithin_no 60 (by decide) v l W h hL ht
  have HB := Lib.hid hw
  clear hw ht
  go_enter Tryz.func61, Tryz.ntmps61
  go_wp2_with (first | ((go_at_call 99); (with_reducible refine (H.out _ (HB.out.alloc _)).mono ?_); rintro e w1 ⟨hbw1, ec, eo, hec, rfl⟩; obtain ⟨hcw1, hfw1⟩ := bcell hbw1; have hzw1 := hbw1.size; (try simp at hzw1); have hyw1 : w.heap.size < w1.heap.size := (by omega); (try have hyaw1 : w.heap.size + 1 < w1.heap.size := (by omega)); (try have hybw1 : w.heap.size + 2 < w1.heap.size := (by omega)); (try have hycw1 : w.heap.size + 3 < w1.heap.size := (by omega)); (try have hydw1 : w.heap.size + 4 < w1.heap.size := (by omega)); clear hzw1; have K0 := Blk.call (Blk.new w 85 #[.int .i64 0, .int .i64 0, .bool false, .slice none 0 0, .slice none 0 0]) hbw1; have lK0 := K0.lt; have qK0 := K0.q; have rK0 := K0.fz; have K0' := Lib.hid K0; clear K0; have K0 := K0'.out; clear K0'; have hn : (ec == 0) = false := beq_eq_false_iff_ne.2 (by omega); have hn' : (ec != 0) = true := (by simp; omega)))
  go_region
  go_wp2
  (refine bodyPost_retB (v := .tuple #[.agg #[.int .i64 0, .int .i64 0, .bool false, .slice none 0 0, .slice none 0 0], .bool false]) (by (simp only [results, Tryz.results61]; try go_simp)) rfl rfl ?_; ((repeat' (first | (with_reducible exact Below.refl _ _) | (with_reducible assumption) | (with_reducible refine Below.setCell ?_ ?_ _) | (with_reducible refine Below.alloc ?_ ?_ _) | (with_reducible refine Below.drew ?_) | (with_reducible refine below_drewN ?_ _) | (with_reducible refine Below.step (by with_reducible assumption) ?_ ?_))) <;> (first | omega | (simp; done) | (simp; omega))))

set_option maxRecDepth 100000 in
set_option maxHeartbeats 4000000 in
theorem rOpen_any (v : Value) (l : List UInt8) (w : World) (hw : IsB w v l) (hL : l.length ≤ 1000000) :
    Calls Tryz.prog 97 #[v] w (RetB (.bool (decide (treeOK 16 l))) w) := by
  by_cases ht : treeOK 16 l
  · have H := Lib.hid (fun W (h : IsB W v l) => rParse_yes v l W h hL ht)
    have HB := Lib.hid hw
    rw [decide_eq_true ht]
    clear hw ht
    go_enter Tryz.func97, Tryz.ntmps97
    go_wp2_with (first | ((go_at_call 131); (with_reducible refine (H.out _ HB.out).mono ?_); rintro e w1 ⟨hbw1, x1, x2, x3, y4, y5, m4, z4, m5, z5, rfl⟩; obtain ⟨hcw1, hfw1⟩ := bcell hbw1; have hs1 := hbw1.size))
    go_ret
    exact ⟨rfl, by ((repeat' (first | (with_reducible exact Below.refl _ _) | (with_reducible assumption) | (with_reducible refine Below.setCell ?_ ?_ _) | (with_reducible refine Below.alloc ?_ ?_ _) | (with_reducible refine Below.drew ?_) | (with_reducible refine below_drewN ?_ _) | (with_reducible refine Below.step (by with_reducible assumption) ?_ ?_))) <;> (first | omega | (simp; done) | (simp; omega)))⟩
  · have H := Lib.hid (fun W (h : IsB W v l) => rParse_no v l W h hL ht)
    have HB := Lib.hid hw
    rw [decide_eq_false ht]
    clear hw ht
    go_enter Tryz.func97, Tryz.ntmps97
    go_wp2_with (first | ((go_at_call 131); (with_reducible refine (H.out _ HB.out).mono ?_); rintro e w1 ⟨hbw1, ec, eo, hec, rfl⟩; obtain ⟨hcw1, hfw1⟩ := bcell hbw1; have hs1 := hbw1.size; have hn : (ec == 0) = false := beq_eq_false_iff_ne.2 (by omega); have hn' : (ec != 0) = true := (by simp; omega)))
    go_ret
    exact ⟨rfl, by ((repeat' (first | (with_reducible exact Below.refl _ _) | (with_reducible assumption) | (with_reducible refine Below.setCell ?_ ?_ _) | (with_reducible refine Below.alloc ?_ ?_ _) | (with_reducible refine Below.drew ?_) | (with_reducible refine below_drewN ?_ _) | (with_reducible refine Below.step (by with_reducible assumption) ?_ ?_))) <;> (first | omega | (simp; done) | (simp; omega)))⟩
end Go.Proofs.YtlmnmgokfnnbbaaGreatDoor
end

/- Walk over the reference's Bytes of a tree. -/
section
set_option linter.unusedSimpArgs false
set_option linter.unusedVariables false
namespace Go.Proofs.YtlmnmgokfnnbbaaGreatDoor
open Go.RowKit Go.Cr
theorem szNode (W : World) : (sizeOf 85).run Tryz.prog W = .ok 5 W := by kernel_rfl
theorem nextH_tag {l : List UInt8} {h : Hdr} (e : nextH l = .ok h) : 0 ≤ h.cls ∧ h.cls ≤ 3 ∧ 0 ≤ h.num ∧ h.num < 31 := by
  obtain ⟨hr, _⟩ := nextH_hdr e
  have := rdHdr_ok hr
  omega
theorem take5_at {xs cs : List Value} {a : Nat} (h : (xs.drop a).take 5 = cs) (j : Nat) (hj : j < 5) : xs[a + j]? = cs[j]? := by
  rw [← h, List.getElem?_take, if_pos hj, List.getElem?_drop]

def BtRel (P : List UInt8) (ks : List (List UInt8)) (cs : Array Value) (w : World) (out ix : Value) (wr : World) : Prop :=
  ∃ k : Nat, ix = .int .i64 k ∧ k ≤ ks.length ∧ OwB wr (w.heap.size + 1) 5 out (P ++ cat ks k) ∧ Blk wr w.heap.size 85 cs ∧ Below w.heap.size w wr

set_option maxRecDepth 100000 in
set_option maxHeartbeats 8000000 in
theorem rBytes_step (d : Nat) (S : Nat → Prop) (cls num : Int) (con : Bool) (v4 v5 : Value) (Pz c : List UInt8) (ks : List (List UInt8)) (xs : List Value) (w : World)
    (t0 : 0 ≤ cls) (t1 : cls ≤ 3) (t2 : 0 ≤ num) (t3 : num < 31) (h4 : IsB w v4 Pz) (h5 : IsR w v5 5 ks.length xs) (hc : Pz ++ ks.flatten = c) (hcl : c.length ≤ 900000)
    (hk : ∀ j (hj : j < ks.length), IsNode S d w ((xs.drop (j * 5)).take 5) ks[j])
    (ih : ∀ (c1 c2 : Int) (c3 : Bool) (a4 a5 : Option Addr) (n4 k4 n5 k5 : Nat) (p : List UInt8) (W : World), IsNode S d W [.int .i64 c1, .int .i64 c2, .bool c3, .slice a4 n4 k4, .slice a5 n5 k5] p → p.length ≤ 900000 →
      Calls Tryz.prog 168 #[.agg #[.int .i64 c1, .int .i64 c2, .bool c3, .slice a4 n4 k4, .slice a5 n5 k5]] W (RetO 5 p W)) :
    Calls Tryz.prog 168 #[.agg #[.int .i64 cls, .int .i64 num, .bool con, v4, v5]] w (RetO 5 (encO cls con num c) w) := by
  have hl4 := h4.len ulB
  have hl5 := h5.len (P := Tryz.prog) ulNodes
  have hmx := h5.maxl
  obtain ⟨A4, k4, rfl⟩ := isB_slice h4
  obtain ⟨A5, k5, rfl⟩ : ∃ A5 k5, v5 = .slice A5 ks.length k5 := by obtain ⟨A5, k5, h, _⟩ := h5; exact ⟨A5, k5, h⟩
  have H4 := Lib.hid h4
  have H5 := Lib.hid h5
  have HK := Lib.hid hk
  have HIH := Lib.hid ih
  have hz := idB_bi cls con num t0 t1 t2 t3
  have HI0 : Hid (∀ W, Calls Tryz.prog 205 #[.int .i64 cls, .bool con, .int .i64 num] W fun e w' => e = .returned (.tuple #[.int .u8 (bi (idB cls con num)), .int .i64 0]) ∧ W = w') := fun W => by
    rw [hz]; exact rIdent_good cls num con W t0 t1 t2 t3
  have HPT := Lib.hid (fun W x u (h : IsB W u c) => rPut x u c W h hcl)
  have HE : Hid (encO cls con num c = idB cls con num :: (lenOct c.length ++ c)) := rfl
  have HCC := Lib.hid hc
  have hpl : ∀ k, (Pz ++ cat ks k).length ≤ 900000 := fun k => by
    have := cat_le ks k
    have e := congrArg List.length hc
    simp only [List.length_append] at e ⊢
    omega
  have HPL := Lib.hid hpl
  have hpz : Pz.length ≤ 900000 := by have := congrArg List.length hc; simp only [List.length_append] at this; omega
  clear h4 h5 hk ih hz hc hpl t0 t1 t2 t3
  generalize encO cls con num c = E at *
  generalize idB cls con num = z at *
  go_enter Tryz.func168, Tryz.ntmps168
  go_wp2_with (first | (go_at_call 205; (with_reducible refine (HI0.out _).mono ?_); rintro e w1 ⟨rfl, rfl⟩) | (at_builtin; refine wpList_appB _ rfl _ _ 33 rfl (w.heap.size + 1) 5 ulB infoB _ [] rfl (own_lit0 (by simp)) _ Pz rfl ((H4.out.alloc _).alloc _) ?k1 ?k2 ?_))
  case k1 => simp; omega
  case k2 => simp
  intro v2 w2 ho2 _ hb2
  have hK2 : Blk w2 w.heap.size 85 #[.int .i64 cls, .int .i64 num, .bool con, .slice A4 Pz.length k4, .slice A5 ks.length k5] := ((Blk.new w _ _).alloc _).below hb2 (by omega)
  have hbw2 : Below w.heap.size w w2 := (((Below.refl _ w).alloc (Nat.le_refl _) (.cells #[.int .i64 cls, .int .i64 num, .bool con, .slice A4 Pz.length k4, .slice A5 ks.length k5] 85)).alloc (by simp) (.cells #[] 5)).trans (hb2.mono (by omega))
  have HO2 := Lib.hid ho2
  have HK2 := Lib.hid hK2
  have HB2 := Lib.hid hbw2
  clear ho2 hb2 hK2 hbw2
  go_wp2_with fail
  go_loopw [5, 6] (fun out ix wr => BtRel Pz ks #[.int .i64 cls, .int .i64 num, .bool con, .slice A4 Pz.length k4, .slice A5 ks.length k5] w out ix wr) (fun _ ix _ => ks.length - (intOf ix).toNat)
  case atStart => exact ⟨0, rfl, Nat.zero_le _, by rw [cat_zero, List.append_nil]; exact HO2.out, HK2.out, HB2.out⟩
  case round =>
    obtain ⟨k, rfl, hk, hO, hK, hbel⟩ := hrel
    have HO := Lib.hid hO
    have HBR := Lib.hid hbel
    have HKR := Lib.hid hK
    have hq := hK.q
    have hf := hK.fz
    have hl := hK.lt
    clear hO hK
    by_cases hlt : k < ks.length
    · obtain ⟨b, o, hi, hbl, hcx⟩ := H5.out.at_ (P := Tryz.prog) ulNodes szNode .i64 (i := k) (by omega) (by omega)
      simp only [Int.toNat_natCast] at hcx
      have hnd := HK.out k hlt
      obtain ⟨x1, x2, x3, y4, y5, m4, z4, m5, z5, hsh⟩ := hnd.shape
      rw [hsh] at hnd
      have p0 := (hbel.cell (p := ⟨b, o + 0, none⟩) hbl).trans (hcx 0 _ (take5_at hsh 0 (by omega)))
      have p1 := (hbel.cell (p := ⟨b, o + 1, none⟩) hbl).trans (hcx 1 _ (take5_at hsh 1 (by omega)))
      have p2 := (hbel.cell (p := ⟨b, o + 2, none⟩) hbl).trans (hcx 2 _ (take5_at hsh 2 (by omega)))
      have p3 := (hbel.cell (p := ⟨b, o + 3, none⟩) hbl).trans (hcx 3 _ (take5_at hsh 3 (by omega)))
      have p4 := (hbel.cell (p := ⟨b, o + 4, none⟩) hbl).trans (hcx 4 _ (take5_at hsh 4 (by omega)))
      rw [Nat.add_zero] at p0
      have hltI : (k : Int) < ks.length := by omega
      have hgd : ks.getD k [] = ks[k] := by simp [hlt]
      have HS := Lib.hid (cat_succ ks k hlt)
      have hc2 := HPL.out (k + 1)
      rw [HS.out, hgd] at hc2
      simp only [List.length_append] at hc2
      rw [hgd] at HS
      have HU := Lib.hid (HIH.out _ _ _ _ _ _ _ _ _ _ wr (hnd.below hbel) (by omega))
      clear hcx hbel hnd hsh hgd
      generalize ks[k] = p at *
      go_wp2_with (first | (go_at_call 168; (with_reducible refine (HU.out).mono ?_); rintro e w2 ⟨v2, rfl, ho2, hb2⟩; have HU2 := Lib.hid ho2.isB; have J0 := Blk.call (HKR.out) hb2; have lJ0 := J0.lt; have qJ0 := J0.q; have rJ0 := J0.fz; have J0' := Lib.hid J0; clear J0; have J0 := J0'.out; clear J0'; have HO3 := Lib.hid (show OwB w2 (w.heap.size + 1) 5 _ _ from ownsRow_below HO.out hb2); have hs2 := hb2.size; clear ho2) | (at_builtin; refine wpList_appB _ rfl _ _ 33 rfl (w.heap.size + 1) 5 ulB infoB _ _ rfl HO3.out _ p rfl HU2.out ?k1 ?k2 ?_))
      case k1 => simp only [List.length_append]; omega
      case k2 => omega
      intro v3 w3 ho3 _ hb3
      rw [← HS.out] at ho3
      have HO4 := Lib.hid ho3
      have HK4 := Lib.hid (show Blk w3 w.heap.size 85 _ from J0.below hb3 (by omega))
      have hbel2 : Below w.heap.size w w3 := (HBR.out.trans (hb2.mono HBR.out.size)).trans (hb3.mono (by omega))
      clear ho3 hb3 hb2 J0 qJ0 rJ0 lJ0 p0 p1 p2 p3 p4 hq hf
      go_wp2
      go_roundw
      case rel => exact ⟨k + 1, by go_num, by omega, HO4.out, HK4.out, hbel2⟩
      case measure => simp [intOf]; omega
    · have hge : (ks.length : Int) ≤ k := by omega
      have ho' : IsB wr u5 c := by
        have := HO.out.isB
        rwa [show k = ks.length by omega, cat_all, HCC.out] at this
      have HO5 := Lib.hid ho'
      clear hlt ho' hbel
      go_wp2_with (first | (go_at_call 94; (with_reducible refine (HPT.out _ z _ HO5.out).mono ?_); rintro e w2 ⟨v2, rfl, ho2, hb2⟩; have HO2 := Lib.hid ho2; clear ho2))
      go_ret
      rw [HE.out]
      exact ⟨_, rfl, HO2.out.more HBR.out.size, HBR.out.trans (hb2.mono HBR.out.size)⟩

theorem rBytes (d : Nat) : ∀ (S : Nat → Prop) (c1 c2 : Int) (c3 : Bool) (a4 a5 : Option Addr) (n4 k4 n5 k5 : Nat) (l : List UInt8) (w : World), IsNode S d w [.int .i64 c1, .int .i64 c2, .bool c3, .slice a4 n4 k4, .slice a5 n5 k5] l → l.length ≤ 900000 →
    Calls Tryz.prog 168 #[.agg #[.int .i64 c1, .int .i64 c2, .bool c3, .slice a4 n4 k4, .slice a5 n5 k5]] w (RetO 5 l w) := by
  induction d with
  | zero => intro S c1 c2 c3 a4 a5 n4 k4 n5 k5 l w h; exact h.elim
  | succ d ih =>
    intro S c1 c2 c3 a4 a5 n4 k4 n5 k5 l w h hl
    obtain ⟨hd, v4, v5, ks, xs, h1, h2, h3, h4, h5, h6, h7⟩ := h
    injection h3 with e1 h3; injection h3 with e2 h3; injection h3 with e3 h3; injection h3 with e4 h3; injection h3 with e5 h3
    injection e1 with _ e1; injection e2 with _ e2; injection e3 with e3
    subst e1 e2 e3 e4 e5
    have ht := nextH_tag h1
    have hk := nextH_ok h1
    have hcl := cont_len h1
    have hcan := nextH_canon h1
    rw [h2, Int.toNat_natCast, List.take_length] at hcan
    have hc : (if hd.con then [] else cont l hd) ++ ks.flatten = cont l hd := by
      cases hcon : hd.con with
      | false => rw [hcon] at h6; simp only [Bool.false_eq_true, if_false] at h6 ⊢; rw [h6]; simp
      | true => rw [hcon] at h6; simp only [if_true] at h6 ⊢; rw [h6]; simp
    have hb4 : IsB w (.slice a4 n4 k4) (if hd.con then [] else cont l hd) := h4.isR.bytes
    have := rBytes_step d S hd.cls hd.num hd.con _ _ _ (cont l hd) ks xs w ht.1 ht.2.1 ht.2.2.1 ht.2.2.2 hb4 h5.isR hc (by omega) (fun j hj => (h7 j hj).2) (fun a b c e f g h i j p W hn hp => ih S a b c e f g h i j p W hn hp)
    rwa [hcan] at this
end Go.Proofs.YtlmnmgokfnnbbaaGreatDoor
end

/- Walk over Sorted of the reference. -/
section
set_option linter.unusedSimpArgs false
set_option linter.unusedVariables false
namespace Go.Proofs.YtlmnmgokfnnbbaaGreatDoor
open Go.RowKit Go.Cr
theorem Behind.not_of {r : List (List UInt8)} {p : List UInt8} (h : 0 < r.length) (hc : cmpL p (r.getD (r.length - 1) []) ≤ 0) : ¬ Behind r p := by
  rintro (e | e)
  · subst e; simp at h
  · rw [getLastD_at r h] at e; omega
theorem Behind.of {r : List (List UInt8)} {p : List UInt8} (h : 0 < r.length) (hc : cmpL p (r.getD (r.length - 1) []) = 1) : Behind r p := by
  right; rw [getLastD_at r h]; omega

def RetBs (ls : List (List UInt8)) (w : World) (e : Ending) (w' : World) : Prop := ∃ o r, e = .returned o ∧ SortOf ls r ∧ IsBs w' o r ∧ Below w.heap.size w w'

set_option maxRecDepth 100000 in
set_option maxHeartbeats 8000000 in
theorem rSorted (v : Value) (ls : List (List UInt8)) (w : World) (hv : IsBs w v ls) (hn : ls.length ≤ 100000) :
    Calls Tryz.prog 66 #[v] w (RetBs ls w) := by
  have h1 := hv.len ulBs
  have HA := Lib.hid hv
  clear hv
  go_enter Tryz.func66, Tryz.ntmps66
  go_wp2
  go_loopw [3] (fun out wr => SoRel ls w out wr) (fun out _ => ls.length - lenOfV out)
  case atStart => exact ⟨[], [], World.ownsRow_nil _ _ _ _, ⟨rfl, fun j hj => absurd hj (by simp)⟩, Beg.nil ls, Below.refl _ _⟩
  case round =>
    obtain ⟨r, vs, hown, helt, hbeg, hbel⟩ := hrel
    obtain ⟨wo, rfl⟩ : ∃ x, x = wr := ⟨_, rfl⟩
    have hlo := (IsR.of_own hown).len ulBs
    have hlv := lenOfV_own hown
    have hrl := Beg.len hbeg
    have HOW := Lib.hid hown
    have HEL := Lib.hid helt
    have HBG := Lib.hid hbeg
    clear hown helt hbeg
    go_wp2
    go_loopw [4, 5] (fun best i wi => BsRel ls r wo best i wi) (fun _ i _ => ls.length - (intOf i).toNat)
    case atStart => exact ⟨0, -1, by omega, rfl, rfl, by omega, by omega, .inl ⟨rfl, fun j hj => absurd hj (by omega)⟩, Below.refl _ _⟩
    case round =>
      obtain ⟨k, b, hk, rfl, rfl, hb0, hb1, hbest, hbel2⟩ := hrel
      have HBe := Lib.hid hbest
      have HW := Lib.hid (below_t hbel hbel2)
      clear hbest
      by_cases hlt : (k : Int) < ls.length
      · obtain ⟨ba, oa, ua, hia, hba, hca, hua⟩ := HA.out.at_ (P := Tryz.prog) ulBs szBs .i64 (i := k) (by omega) hlt
        simp only [Int.toNat_natCast] at hua
        have ca : wr.cell? ⟨ba, oa, none⟩ = some ua := below_cell HW.out hba hca
        have HU := Lib.hid hua
        clear hua hca
        rcases Nat.eq_zero_or_pos r.length with hr0 | hrp
        · obtain rfl : r = [] := List.eq_nil_of_length_eq_zero hr0
          have hbh : Hid (Behind [] (ls.getD k [])) := .inl rfl
          rcases Int.lt_or_le b 0 with hneg | hnn
          · obtain rfl : b = -1 := by omega
            go_wp2
            go_quiet (fail)
            go_wp2
            go_quiet (fail)
            go_wp2
            go_roundw
            case rel => exact ⟨k + 1, k, by omega, by go_num, rfl, by omega, by omega, HBe.out.first hbh.out, by ((repeat' (first | (with_reducible exact Below.refl _ _) | (with_reducible assumption) | (with_reducible refine Below.setCell ?_ ?_ _) | (with_reducible refine Below.alloc ?_ ?_ _) | (with_reducible refine Below.drew ?_) | (with_reducible refine below_drewN ?_ _) | (with_reducible refine Below.step (by with_reducible assumption) ?_ ?_))) <;> (first | omega | (simp; done) | (simp; omega)))⟩
            case measure => simp [intOf]; omega
          · obtain ⟨m, rfl⟩ : ∃ m : Nat, b = m := ⟨b.toNat, by omega⟩
            have hmf : decide ((m : Int) < 0) = false := decide_eq_false (by omega)
            obtain ⟨bm, om, um, him, hbm, hcm, hum⟩ := HA.out.at_ (P := Tryz.prog) ulBs szBs .i64 (i := m) (by omega) (by omega)
            simp only [Int.toNat_natCast] at hum
            have cm : wr.cell? ⟨bm, om, none⟩ = some um := below_cell HW.out hbm hcm
            have HD := Lib.hid (fun n m => rCompare_d ua um _ _ ((wr.drewN m).drewN n) (((HU.out.below HW.out).drewN m).drewN n) (((hum.below HW.out).drewN m).drewN n))
            have hv2 := cmpL_vals (ls.getD k []) (ls.getD m [])
            have HL : Hid (cmpL (ls.getD k []) (ls.getD m []) < 0 → Best ls [] (k + 1) k) := fun h => HBe.out.less hbh.out h
            have HS : Hid (¬ cmpL (ls.getD k []) (ls.getD m []) < 0 → Best ls [] (k + 1) m) := fun h => HBe.out.stay h
            clear hum hcm
            generalize cmpL (ls.getD k []) (ls.getD m []) = c2 at *
            rcases hv2 with rfl | rfl | rfl
            · go_wp2
              go_quiet (fail)
              obtain ⟨wq, hwq⟩ : ∃ x, x = wr.drewN nq := ⟨_, rfl⟩
              rw [← hwq]
              have HDq := Lib.hid (fun n => HD.out n nq)
              rw [← hwq] at HDq
              have ca2 : wq.cell? ⟨ba, oa, none⟩ = some ua := by rw [hwq]; exact ca
              have cm2 : wq.cell? ⟨bm, om, none⟩ = some um := by rw [hwq]; exact cm
              have hbq : Below wo.heap.size wo wq := by rw [hwq]; exact below_drewN hbel2 nq
              clear hwq
              go_wp2
              go_quiet (first | (go_at_call 98; exact Calls.quiet_of (HDq.out _)))
              go_wp2
              go_roundw
              case rel => exact ⟨k + 1, k, by omega, by go_num, rfl, by omega, by omega, HL.out (by omega), by ((repeat' (first | (with_reducible exact Below.refl _ _) | (with_reducible assumption) | (with_reducible refine Below.setCell ?_ ?_ _) | (with_reducible refine Below.alloc ?_ ?_ _) | (with_reducible refine Below.drew ?_) | (with_reducible refine below_drewN ?_ _) | (with_reducible refine Below.step (by with_reducible assumption) ?_ ?_))) <;> (first | omega | (simp; done) | (simp; omega)))⟩
              case measure => simp [intOf]; omega
            · go_wp2
              go_quiet (fail)
              obtain ⟨wq, hwq⟩ : ∃ x, x = wr.drewN nq := ⟨_, rfl⟩
              rw [← hwq]
              have HDq := Lib.hid (fun n => HD.out n nq)
              rw [← hwq] at HDq
              have ca2 : wq.cell? ⟨ba, oa, none⟩ = some ua := by rw [hwq]; exact ca
              have cm2 : wq.cell? ⟨bm, om, none⟩ = some um := by rw [hwq]; exact cm
              have hbq : Below wo.heap.size wo wq := by rw [hwq]; exact below_drewN hbel2 nq
              clear hwq
              go_wp2
              go_quiet (first | (go_at_call 98; exact Calls.quiet_of (HDq.out _)))
              go_wp2
              go_roundw
              case rel => exact ⟨k + 1, m, by omega, by go_num, rfl, by omega, by omega, HS.out (by omega), by ((repeat' (first | (with_reducible exact Below.refl _ _) | (with_reducible assumption) | (with_reducible refine Below.setCell ?_ ?_ _) | (with_reducible refine Below.alloc ?_ ?_ _) | (with_reducible refine Below.drew ?_) | (with_reducible refine below_drewN ?_ _) | (with_reducible refine Below.step (by with_reducible assumption) ?_ ?_))) <;> (first | omega | (simp; done) | (simp; omega)))⟩
              case measure => simp [intOf]; omega
            · go_wp2
              go_quiet (fail)
              obtain ⟨wq, hwq⟩ : ∃ x, x = wr.drewN nq := ⟨_, rfl⟩
              rw [← hwq]
              have HDq := Lib.hid (fun n => HD.out n nq)
              rw [← hwq] at HDq
              have ca2 : wq.cell? ⟨ba, oa, none⟩ = some ua := by rw [hwq]; exact ca
              have cm2 : wq.cell? ⟨bm, om, none⟩ = some um := by rw [hwq]; exact cm
              have hbq : Below wo.heap.size wo wq := by rw [hwq]; exact below_drewN hbel2 nq
              clear hwq
              go_wp2
              go_quiet (first | (go_at_call 98; exact Calls.quiet_of (HDq.out _)))
              go_wp2
              go_roundw
              case rel => exact ⟨k + 1, m, by omega, by go_num, rfl, by omega, by omega, HS.out (by omega), by ((repeat' (first | (with_reducible exact Below.refl _ _) | (with_reducible assumption) | (with_reducible refine Below.setCell ?_ ?_ _) | (with_reducible refine Below.alloc ?_ ?_ _) | (with_reducible refine Below.drew ?_) | (with_reducible refine below_drewN ?_ _) | (with_reducible refine Below.step (by with_reducible assumption) ?_ ?_))) <;> (first | omega | (simp; done) | (simp; omega)))⟩
              case measure => simp [intOf]; omega
        · have hrp' : (0 : Int) < r.length := by omega
          obtain ⟨bl, ol, hil, hbl, hcl⟩ := (IsR.of_own (ownsRow_below HOW.out hbel2)).at_ (P := Tryz.prog) ulBs szBs .i64 (i := (r.length : Int) - 1) (by omega) (by omega)
          have hvl : vs[r.length - 1]? = some (vs.getD (r.length - 1) undef) := by have := HEL.out.1; simp [List.getD, show r.length - 1 < vs.length by omega]
          have cl := hcl 0 (vs.getD (r.length - 1) undef) (by rw [show (((r.length : Int) - 1).toNat * 1 + 0) = r.length - 1 by omega]; exact hvl)
          rw [Nat.add_zero] at cl
          have hul := HEL.out.2 (r.length - 1) (by omega)
          have hsub : IntKind.i64.wrap ((r.length : Int) - 1) = (r.length : Int) - 1 := IntWalk.i64_in _ (by omega)
          have HC := Lib.hid (fun n => rCompare_d ua _ _ _ (wr.drewN n) ((HU.out.below HW.out).drewN n) ((hul.below HW.out).drewN n))
          have hv1 := cmpL_vals (ls.getD k []) (r.getD (r.length - 1) [])
          have HN : Hid (cmpL (ls.getD k []) (r.getD (r.length - 1) []) ≤ 0 → ¬ Behind r (ls.getD k [])) := fun h => Behind.not_of hrp h
          have HY : Hid (cmpL (ls.getD k []) (r.getD (r.length - 1) []) = 1 → Behind r (ls.getD k [])) := fun h => Behind.of hrp h
          clear hul hcl hvl
          generalize vs.getD (r.length - 1) undef = ul at *
          generalize cmpL (ls.getD k []) (r.getD (r.length - 1) []) = c1 at *
          rcases hv1 with rfl | rfl | rfl
          · go_wp2
            go_quiet (first | (go_at_call 98; exact Calls.quiet_of (HC.out _)))
            go_wp2
            go_roundw
            case rel => exact ⟨k + 1, b, by omega, by go_num, rfl, by omega, by omega, HBe.out.skip (HN.out (by omega)), by ((repeat' (first | (with_reducible exact Below.refl _ _) | (with_reducible assumption) | (with_reducible refine Below.setCell ?_ ?_ _) | (with_reducible refine Below.alloc ?_ ?_ _) | (with_reducible refine Below.drew ?_) | (with_reducible refine below_drewN ?_ _) | (with_reducible refine Below.step (by with_reducible assumption) ?_ ?_))) <;> (first | omega | (simp; done) | (simp; omega)))⟩
            case measure => simp [intOf]; omega
          · go_wp2
            go_quiet (first | (go_at_call 98; exact Calls.quiet_of (HC.out _)))
            go_wp2
            go_roundw
            case rel => exact ⟨k + 1, b, by omega, by go_num, rfl, by omega, by omega, HBe.out.skip (HN.out (by omega)), by ((repeat' (first | (with_reducible exact Below.refl _ _) | (with_reducible assumption) | (with_reducible refine Below.setCell ?_ ?_ _) | (with_reducible refine Below.alloc ?_ ?_ _) | (with_reducible refine Below.drew ?_) | (with_reducible refine below_drewN ?_ _) | (with_reducible refine Below.step (by with_reducible assumption) ?_ ?_))) <;> (first | omega | (simp; done) | (simp; omega)))⟩
            case measure => simp [intOf]; omega
          · have hbh := Lib.hid (HY.out rfl)
            rcases Int.lt_or_le b 0 with hneg | hnn
            · obtain rfl : b = -1 := by omega
              go_wp2
              go_quiet (first | (go_at_call 98; exact Calls.quiet_of (HC.out _)))
              go_wp2
              go_quiet (fail)
              go_wp2
              go_roundw
              case rel => exact ⟨k + 1, k, by omega, by go_num, rfl, by omega, by omega, HBe.out.first hbh.out, by ((repeat' (first | (with_reducible exact Below.refl _ _) | (with_reducible assumption) | (with_reducible refine Below.setCell ?_ ?_ _) | (with_reducible refine Below.alloc ?_ ?_ _) | (with_reducible refine Below.drew ?_) | (with_reducible refine below_drewN ?_ _) | (with_reducible refine Below.step (by with_reducible assumption) ?_ ?_))) <;> (first | omega | (simp; done) | (simp; omega)))⟩
              case measure => simp [intOf]; omega
            · obtain ⟨m, rfl⟩ : ∃ m : Nat, b = m := ⟨b.toNat, by omega⟩
              have hmf : decide ((m : Int) < 0) = false := decide_eq_false (by omega)
              obtain ⟨bm, om, um, him, hbm, hcm, hum⟩ := HA.out.at_ (P := Tryz.prog) ulBs szBs .i64 (i := m) (by omega) (by omega)
              simp only [Int.toNat_natCast] at hum
              have cm : wr.cell? ⟨bm, om, none⟩ = some um := below_cell HW.out hbm hcm
              have HD := Lib.hid (fun n m => rCompare_d ua um _ _ ((wr.drewN m).drewN n) (((HU.out.below HW.out).drewN m).drewN n) (((hum.below HW.out).drewN m).drewN n))
              have hv2 := cmpL_vals (ls.getD k []) (ls.getD m [])
              have HL : Hid (cmpL (ls.getD k []) (ls.getD m []) < 0 → Best ls r (k + 1) k) := fun h => HBe.out.less hbh.out h
              have HS : Hid (¬ cmpL (ls.getD k []) (ls.getD m []) < 0 → Best ls r (k + 1) m) := fun h => HBe.out.stay h
              clear hum hcm
              generalize cmpL (ls.getD k []) (ls.getD m []) = c2 at *
              rcases hv2 with rfl | rfl | rfl
              · go_wp2
                go_quiet (first | (go_at_call 98; exact Calls.quiet_of (HC.out _)))
                obtain ⟨wq, hwq⟩ : ∃ x, x = wr.drewN nq := ⟨_, rfl⟩
                rw [← hwq]
                have HDq := Lib.hid (fun n => HD.out n nq)
                rw [← hwq] at HDq
                have ca2 : wq.cell? ⟨ba, oa, none⟩ = some ua := by rw [hwq]; exact ca
                have cm2 : wq.cell? ⟨bm, om, none⟩ = some um := by rw [hwq]; exact cm
                have hbq : Below wo.heap.size wo wq := by rw [hwq]; exact below_drewN hbel2 nq
                clear hwq
                go_wp2
                go_quiet (first | (go_at_call 98; exact Calls.quiet_of (HDq.out _)))
                go_wp2
                go_roundw
                case rel => exact ⟨k + 1, k, by omega, by go_num, rfl, by omega, by omega, HL.out (by omega), by ((repeat' (first | (with_reducible exact Below.refl _ _) | (with_reducible assumption) | (with_reducible refine Below.setCell ?_ ?_ _) | (with_reducible refine Below.alloc ?_ ?_ _) | (with_reducible refine Below.drew ?_) | (with_reducible refine below_drewN ?_ _) | (with_reducible refine Below.step (by with_reducible assumption) ?_ ?_))) <;> (first | omega | (simp; done) | (simp; omega)))⟩
                case measure => simp [intOf]; omega
              · go_wp2
                go_quiet (first | (go_at_call 98; exact Calls.quiet_of (HC.out _)))
                obtain ⟨wq, hwq⟩ : ∃ x, x = wr.drewN nq := ⟨_, rfl⟩
                rw [← hwq]
                have HDq := Lib.hid (fun n => HD.out n nq)
                rw [← hwq] at HDq
                have ca2 : wq.cell? ⟨ba, oa, none⟩ = some ua := by rw [hwq]; exact ca
                have cm2 : wq.cell? ⟨bm, om, none⟩ = some um := by rw [hwq]; exact cm
                have hbq : Below wo.heap.size wo wq := by rw [hwq]; exact below_drewN hbel2 nq
                clear hwq
                go_wp2
                go_quiet (first | (go_at_call 98; exact Calls.quiet_of (HDq.out _)))
                go_wp2
                go_roundw
                case rel => exact ⟨k + 1, m, by omega, by go_num, rfl, by omega, by omega, HS.out (by omega), by ((repeat' (first | (with_reducible exact Below.refl _ _) | (with_reducible assumption) | (with_reducible refine Below.setCell ?_ ?_ _) | (with_reducible refine Below.alloc ?_ ?_ _) | (with_reducible refine Below.drew ?_) | (with_reducible refine below_drewN ?_ _) | (with_reducible refine Below.step (by with_reducible assumption) ?_ ?_))) <;> (first | omega | (simp; done) | (simp; omega)))⟩
                case measure => simp [intOf]; omega
              · go_wp2
                go_quiet (first | (go_at_call 98; exact Calls.quiet_of (HC.out _)))
                obtain ⟨wq, hwq⟩ : ∃ x, x = wr.drewN nq := ⟨_, rfl⟩
                rw [← hwq]
                have HDq := Lib.hid (fun n => HD.out n nq)
                rw [← hwq] at HDq
                have ca2 : wq.cell? ⟨ba, oa, none⟩ = some ua := by rw [hwq]; exact ca
                have cm2 : wq.cell? ⟨bm, om, none⟩ = some um := by rw [hwq]; exact cm
                have hbq : Below wo.heap.size wo wq := by rw [hwq]; exact below_drewN hbel2 nq
                clear hwq
                go_wp2
                go_quiet (first | (go_at_call 98; exact Calls.quiet_of (HDq.out _)))
                go_wp2
                go_roundw
                case rel => exact ⟨k + 1, m, by omega, by go_num, rfl, by omega, by omega, HS.out (by omega), by ((repeat' (first | (with_reducible exact Below.refl _ _) | (with_reducible assumption) | (with_reducible refine Below.setCell ?_ ?_ _) | (with_reducible refine Below.alloc ?_ ?_ _) | (with_reducible refine Below.drew ?_) | (with_reducible refine below_drewN ?_ _) | (with_reducible refine Below.step (by with_reducible assumption) ?_ ?_))) <;> (first | omega | (simp; done) | (simp; omega)))⟩
                case measure => simp [intOf]; omega
      · obtain rfl : k = ls.length := by omega
        rcases Int.lt_or_le b 0 with hneg | hnn
        · obtain rfl : b = -1 := by omega
          have hdone : SortOf ls r := HBG.out.done fun p hp => by
            obtain ⟨j, hj, rfl⟩ := List.mem_iff_getElem.1 hp
            rcases HBe.out with ⟨_, h⟩ | ⟨m, _, h, _⟩
            · have := h j hj; simpa [List.getD, hj] using this
            · omega
          go_wp2
          refine bodyPost_ret (v := u3) (by simp only [results, Tryz.results66]; go_simp) rfl ⟨_, r, rfl, hdone, ⟨vs, IsR.of_own (ownsRow_below HOW.out hbel2), fun j hj => (HEL.out.2 j hj).below HW.out⟩, HW.out⟩
        · obtain ⟨m, rfl⟩ : ∃ m : Nat, b = m := ⟨b.toNat, by omega⟩
          have hmf : decide ((m : Int) < 0) = false := decide_eq_false (by omega)
          obtain ⟨bm, om, um, him, hbm, hcm, hum⟩ := HA.out.at_ (P := Tryz.prog) ulBs szBs .i64 (i := m) (by omega) (by omega)
          simp only [Int.toNat_natCast] at hum
          have cm : wr.cell? ⟨bm, om, none⟩ = some um := below_cell HW.out hbm hcm
          obtain ⟨uA, un, uc, rfl⟩ : ∃ A n c, um = .slice A n c := by obtain ⟨A, c, h, _⟩ := hum; exact ⟨_, _, _, h⟩
          obtain ⟨hbh, hmin⟩ : Behind r (ls.getD m []) ∧ ∀ j, j < ls.length → Behind r (ls.getD j []) → ¬ cmpL (ls.getD j []) (ls.getD m []) < 0 := by
            rcases HBe.out with ⟨h, _⟩ | ⟨m', _, h, h2, h3⟩
            · omega
            · obtain rfl : m = m' := by omega
              exact ⟨h2, h3⟩
          have hmem := getD_mem (ls := ls) (k := m) (by omega)
          have hroom := Beg.room HBG.out hmem hbh
          have hnext := HBG.out.next hmem hbh (fun p hp hb => by
            obtain ⟨j, hj, rfl⟩ := List.mem_iff_getElem.1 hp
            have := hmin j hj (by simpa [List.getD, hj] using hb)
            simpa [List.getD, hj] using this)
          have HNX := Lib.hid hnext
          have helt' := HEL.out.snoc hum
          have HE2 := Lib.hid helt'
          obtain ⟨i0, hi0, hz0, hz1, hz2⟩ := info_parts infoBs
          have hwz := HW.out.size
          clear hbh hmin hmem hnext helt' hum hcm
          go_wp2_with (at_builtin; refine wpList_app _ rfl _ _ 74 rfl w.heap.size 33 i0 (.slice none 0 0) 1 24 ulBs hi0 hz0 hz1 hz2 rfl (by decide) _ r.length vs rfl ((ownsRow_below HOW.out hbel2).alloc _) _ 1 [.slice uA un uc] rfl (isR_at rfl rfl) (by intro u hu; simp only [List.mem_singleton] at hu; subst hu; rfl) (by have : maxLen = 9223372036854775807 := rfl; omega) (by omega) ?k3 ?_)
          case k3 => first | omega | (simp; omega)
          intro v2 w2 ho2 _ hb2
          have HO2 := Lib.hid ho2
          have hlv2 := lenOfV_own ho2
          clear ho2
          go_wp2
          go_roundw
          case rel => exact ⟨r ++ [ls.getD m []], vs ++ [.slice uA un uc], by simpa using HO2.out, HE2.out, HNX.out, (HW.out.alloc hwz _).trans hb2⟩
          case measure => rw [hlv2, hlv]; omega
end Go.Proofs.YtlmnmgokfnnbbaaGreatDoor
end
