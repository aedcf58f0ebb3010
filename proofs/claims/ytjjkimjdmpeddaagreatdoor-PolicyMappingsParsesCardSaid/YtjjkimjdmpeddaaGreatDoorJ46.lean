/- The parts AttrR, AttrS, AttrT, AttrP of one proof, one behind the other. -/
import Derived.Test.YtjjkimjdmpeddaaGreatDoorJ35
import Derived.Deep.RegionHeld3
import Derived.Test.YtjjkimjdmpeddaaGreatDoorJ26

/- Walks over the reference's Valid, Marshal. -/
section
set_option linter.unusedSimpArgs false
set_option linter.unusedVariables false
namespace Go.Proofs.YtjjkimjdmpeddaaGreatDoor
open Go.RowKit Go.Cr

set_option maxRecDepth 100000 in
set_option maxHeartbeats 4000000 in
theorem rObject (s : ByteArray) (c : List UInt8) (w : World) (hs : s.size ≤ 100000) (hc : oidE s.data.toList = some c) :
    Calls Tryz.prog 67 #[.string s] w (RetO 5 (encO 0 false 6 c) w) := by
  have hsl : s.data.toList.length = s.size := rfl
  have hcl := oidE_len hc
  have HO : Hid (∀ W, Calls Tryz.prog 105 #[.string s] W (RetOidY c W)) := fun W => (rOidEnc s W (by omega)).mono fun e w' hh => by rw [hc] at hh; exact hh.yes
  have HP : Hid (∀ W u, IsB W u c → Calls Tryz.prog 49 #[.int .u8 6, u] W (RetO 5 (encO 0 false 6 c) W)) := fun W u h => rPut 6 u c W h (by omega)
  clear hs hc hsl hcl
  go_enter Tryz.func67, Tryz.ntmps67
  go_wp2_with (first | ((go_at_call 105); (with_reducible refine (HO.out _).mono ?_); rintro e w2 ⟨v2, rfl, ho2, hbw2⟩; obtain ⟨A2, k2, rfl⟩ := isB_slice ho2.isB; have HO2 := Lib.hid ho2; clear ho2) | ((go_at_call 49); (with_reducible refine (HP.out _ _ HO2.out.isB).mono ?_); rintro e w3 ⟨v3, rfl, ho3, hbw3⟩; have HO3 := Lib.hid ho3; clear ho3))
  go_ret
  exact ⟨_, rfl, HO3.out.more hbw2.size, hbw2.trans (hbw3.mono hbw2.size)⟩

end Go.Proofs.YtjjkimjdmpeddaaGreatDoor
end

/- Walks over the reference's Read of an attribute. -/
section
set_option linter.unusedSimpArgs false
set_option linter.unusedVariables false
namespace Go.Proofs.YtjjkimjdmpeddaaGreatDoor
open Go.RowKit Go.Cr

/-- The kids of a node are those of its octets. -/
theorem isNode_open {S : Nat → Prop} {d : Nat} {w : World} {cs : List Value} {l : List UInt8} (h : IsNode S (d + 1) w cs l) :
    ∃ (c1 c2 : Int) (c3 : Bool) (v4 v5 : Value) (xs : List Value), cs = [.int .i64 c1, .int .i64 c2, .bool c3, v4, v5] ∧ IsB w v4 (kidC l) ∧ IsR w v5 5 (kidsT d l).length xs ∧
      (∀ j (hj : j < (kidsT d l).length), IsNode S d w ((xs.drop (j * 5)).take 5) (kidsT d l)[j]) ∧ (kidsT d l).flatten.length ≤ l.length := by
  obtain ⟨hd, v4, v5, ks, xs, h1, h2, h3, h4, h5, h6, h7⟩ := h
  have hkid : kidsT d l = ks := by
    unfold kidsT
    rw [h1]
    cases hc : hd.con with
    | false => rw [hc] at h6; simp only [Bool.false_eq_true, if_false] at h6; simp [hc, h6]
    | true =>
      rw [hc, if_pos rfl] at h6
      have hl := cont_len h1
      simp only [hc, Bool.true_eq_false, if_false]
      rw [← h6, scanL_of ks _ (fun p hp => by
        obtain ⟨j, hj, rfl⟩ := List.getElem_of_mem hp
        exact (h7 j hj).1) (by rw [h6]; omega)]
      rfl
  have hkc : kidC l = if hd.con then [] else cont l hd := by unfold kidC; rw [h1]
  have hkk := nextH_ok h1
  have hcl := cont_len h1
  refine ⟨hd.cls, hd.num, hd.con, v4, v5, xs, h3, ?_, ?_, ?_, ?_⟩
  · rw [hkc]; exact h4.isR.bytes
  · rw [hkid]; exact h5.isR
  · rw [hkid]; exact fun j hj => (h7 j hj).2
  · rw [hkid]
    cases hc : hd.con with
    | false => rw [hc] at h6; simp only [Bool.false_eq_true, if_false] at h6; simp [h6]
    | true => rw [hc, if_pos rfl] at h6; rw [h6]; omega
theorem kidC_len (p : List UInt8) : (kidC p).length ≤ p.length := by
  unfold kidC
  split
  · simp
  · rename_i h e
    have := nextH_ok e
    have := cont_len e
    split
    · simp
    · omega
theorem getD_len (ks : List (List UInt8)) (j : Nat) : (ks.getD j []).length ≤ ks.flatten.length := by
  induction ks generalizing j with
  | nil => simp
  | cons x t ih =>
    cases j with
    | zero => simp
    | succ j => have := ih j; simp only [List.getD_cons_succ, List.flatten_cons, List.length_append]; omega

set_option maxRecDepth 100000 in
set_option maxHeartbeats 4000000 in
theorem rKid0_none (c1 c2 : Int) (c3 : Bool) (v4 v5 : Value) (xs : List Value) (w : World) (h4 : v4.oneCell' = true) (h5 : IsR w v5 5 0 xs) :
    Calls Tryz.prog 102 #[.agg #[.int .i64 c1, .int .i64 c2, .bool c3, v4, v5], .int .i64 0] w (RetB (.agg #[.int .i64 0, .int .i64 0, .bool false, .slice none 0 0, .slice none 0 0]) w) := by
  have hl5 := h5.len (P := Tryz.prog) ulNodes
  obtain ⟨A5, k5, rfl⟩ : ∃ A5 k5, v5 = .slice A5 0 k5 := by obtain ⟨A5, k5, h, _⟩ := h5; exact ⟨A5, k5, h⟩
  clear h5
  go_enter Tryz.func102, Tryz.ntmps102
  go_wp2_with fail
  (refine bodyPost_retB (v := .agg #[.int .i64 0, .int .i64 0, .bool false, .slice none 0 0, .slice none 0 0]) (by (simp only [results, Tryz.results102]; try go_simp)) rfl rfl ?_; ((repeat' (first | (with_reducible exact Below.refl _ _) | (with_reducible assumption) | (with_reducible refine Below.setCell ?_ ?_ _) | (with_reducible refine Below.alloc ?_ ?_ _) | (with_reducible refine Below.drew ?_) | (with_reducible refine below_drewN ?_ _) | (with_reducible refine Below.step (by with_reducible assumption) ?_ ?_))) <;> (first | omega | (simp; done) | (simp; omega))))

set_option maxRecDepth 100000 in
set_option maxHeartbeats 4000000 in
theorem rKid0_some (c1 c2 : Int) (c3 : Bool) (v4 v5 : Value) (n : Nat) (xs : List Value) (w : World) (h4 : v4.oneCell' = true) (h5 : IsR w v5 5 n xs) (hn : 0 < n)
    (x1 x2 : Int) (x3 : Bool) (y4 y5 : Option Addr) (m4 z4 m5 z5 : Nat) (hx : (xs.drop (0 * 5)).take 5 = [.int .i64 x1, .int .i64 x2, .bool x3, .slice y4 m4 z4, .slice y5 m5 z5]) :
    Calls Tryz.prog 102 #[.agg #[.int .i64 c1, .int .i64 c2, .bool c3, v4, v5], .int .i64 0] w (RetB (.agg #[.int .i64 x1, .int .i64 x2, .bool x3, .slice y4 m4 z4, .slice y5 m5 z5]) w) := by
  have hl5 := h5.len (P := Tryz.prog) ulNodes
  obtain ⟨b, o, hi, hbl, hcx⟩ := h5.at_ (P := Tryz.prog) ulNodes szNode .i64 (i := 0) (by omega) (by omega)
  obtain ⟨A5, k5, rfl⟩ : ∃ A5 k5, v5 = .slice A5 n k5 := by obtain ⟨A5, k5, h, _⟩ := h5; exact ⟨A5, k5, h⟩
  have p0 := hcx 0 _ (take5_at hx 0 (by omega))
  have p1 := hcx 1 _ (take5_at hx 1 (by omega))
  have p2 := hcx 2 _ (take5_at hx 2 (by omega))
  have p3 := hcx 3 _ (take5_at hx 3 (by omega))
  have p4 := hcx 4 _ (take5_at hx 4 (by omega))
  rw [Nat.add_zero] at p0
  have hnI : (0 : Int) < n := by omega
  have hd1 : decide (n ≤ 0) = false := decide_eq_false (by omega)
  have hd2 : decide ((0 : Int) ≥ n) = false := decide_eq_false (by omega)
  clear h5 hcx hx
  go_enter Tryz.func102, Tryz.ntmps102
  go_wp2_with fail
  (refine bodyPost_retB (v := .agg #[.int .i64 x1, .int .i64 x2, .bool x3, .slice y4 m4 z4, .slice y5 m5 z5]) (by (simp only [results, Tryz.results102]; try go_simp)) rfl rfl ?_; ((repeat' (first | (with_reducible exact Below.refl _ _) | (with_reducible assumption) | (with_reducible refine Below.setCell ?_ ?_ _) | (with_reducible refine Below.alloc ?_ ?_ _) | (with_reducible refine Below.drew ?_) | (with_reducible refine below_drewN ?_ _) | (with_reducible refine Below.step (by with_reducible assumption) ?_ ?_))) <;> (first | omega | (simp; done) | (simp; omega))))

set_option maxRecDepth 100000 in
set_option maxHeartbeats 4000000 in
theorem rReadObj (c1 c2 : Int) (c3 : Bool) (v4 v5 : Value) (c : List UInt8) (w : World) (h4 : IsB w v4 c) (h5 : v5.oneCell' = true) (hl : c.length ≤ 4000) :
    Calls Tryz.prog 112 #[.agg #[.int .i64 c1, .int .i64 c2, .bool c3, v4, v5]] w (RetB (.string (bStr ((oidD c).getD []))) w) := by
  obtain ⟨A, k, rfl⟩ := isB_slice h4
  have HV := Lib.hid h4
  have H := Lib.hid (fun W u (h : IsB W u c) => rDec u c W h hl)
  clear h4
  generalize oidD c = r at *
  cases r with
  | none =>
    have e0 : bStr ((none : Option (List UInt8)).getD []) = ⟨#[]⟩ := rfl
    rw [e0]
    simp only [decV] at H
    go_enter Tryz.func112, Tryz.ntmps112
    go_wp2_with (first | ((go_at_call 145); (with_reducible refine (H.out _ _ (HV.out.alloc _)).mono ?_); rintro e w1 ⟨rfl, hbw1⟩; have hs1 := hbw1.size; simp at hs1))
    go_ret
    exact ⟨rfl, by ((repeat' (first | (with_reducible exact Below.refl _ _) | (with_reducible assumption) | (with_reducible refine Below.setCell ?_ ?_ _) | (with_reducible refine Below.alloc ?_ ?_ _) | (with_reducible refine Below.drew ?_) | (with_reducible refine below_drewN ?_ _) | (with_reducible refine Below.step (by with_reducible assumption) ?_ ?_))) <;> (first | omega | (simp; done) | (simp; omega)))⟩
  | some s =>
    have e0 : bStr ((some s).getD []) = bStr s := rfl
    rw [e0]
    simp only [decV] at H
    go_enter Tryz.func112, Tryz.ntmps112
    go_wp2_with (first | ((go_at_call 145); (with_reducible refine (H.out _ _ (HV.out.alloc _)).mono ?_); rintro e w1 ⟨rfl, hbw1⟩; have hs1 := hbw1.size; simp at hs1))
    go_ret
    exact ⟨rfl, by ((repeat' (first | (with_reducible exact Below.refl _ _) | (with_reducible assumption) | (with_reducible refine Below.setCell ?_ ?_ _) | (with_reducible refine Below.alloc ?_ ?_ _) | (with_reducible refine Below.drew ?_) | (with_reducible refine below_drewN ?_ _) | (with_reducible refine Below.step (by with_reducible assumption) ?_ ?_))) <;> (first | omega | (simp; done) | (simp; omega)))⟩

theorem isB_nil0 (w : World) : IsB w (.slice none 0 0) [] := ⟨none, 0, rfl, Nat.le_refl _, by decide, fun h => absurd h (by simp)⟩

set_option maxRecDepth 100000 in
set_option maxHeartbeats 4000000 in
theorem rOctets1 (d : Nat) (S : Nat → Prop) (c1 c2 : Int) (c3 : Bool) (v4 v5 : Value) (ks : List (List UInt8)) (xs : List Value) (w : World) (h4 : v4.oneCell' = true) (h5 : IsR w v5 5 ks.length xs)
    (hk : ∀ j (hj : j < ks.length), IsNode S d w ((xs.drop (j * 5)).take 5) ks[j]) (hL : (ks.getD 1 []).length ≤ 900000) :
    Calls Tryz.prog 118 #[.agg #[.int .i64 c1, .int .i64 c2, .bool c3, v4, v5], .int .i64 1] w (RetO 5 (ks.getD 1 []) w) := by
  have hl5 := h5.len (P := Tryz.prog) ulNodes
  by_cases hn : 1 < ks.length
  · obtain ⟨b, o, hi, hbl, hcx⟩ := h5.at_ (P := Tryz.prog) ulNodes szNode .i64 (i := 1) (by omega) (by omega)
    obtain ⟨A5, k5, rfl⟩ : ∃ A5 k5, v5 = .slice A5 ks.length k5 := by obtain ⟨A5, k5, h, _⟩ := h5; exact ⟨A5, k5, h⟩
    have hnd := hk 1 hn
    obtain ⟨x1, x2, x3, y4, y5, m4, z4, m5, z5, hx⟩ := hnd.shape
    rw [hx] at hnd
    have p0 := hcx 0 _ (take5_at hx 0 (by omega))
    have p1 := hcx 1 _ (take5_at hx 1 (by omega))
    have p2 := hcx 2 _ (take5_at hx 2 (by omega))
    have p3 := hcx 3 _ (take5_at hx 3 (by omega))
    have p4 := hcx 4 _ (take5_at hx 4 (by omega))
    rw [Nat.add_zero] at p0
    have hgd : ks.getD 1 [] = ks[1] := by simp [hn]
    rw [hgd] at hL ⊢
    have H := Lib.hid (fun W (h : IsNode S d W [.int .i64 x1, .int .i64 x2, .bool x3, .slice y4 m4 z4, .slice y5 m5 z5] ks[1]) => rBytes d S x1 x2 x3 y4 y5 m4 z4 m5 z5 ks[1] W h hL)
    have HN := Lib.hid hnd
    have hnI : (1 : Int) < ks.length := by omega
    have hd1 : decide (ks.length ≤ 1) = false := decide_eq_false (by omega)
    clear h5 hcx hx hk hgd hL hnd
    generalize ks[1] = p at *
    generalize ks.length = n at *
    go_enter Tryz.func118, Tryz.ntmps118
    go_wp2_with (first | ((go_at_call 147); (with_reducible refine (H.out _ (node_alloc HN.out _)).mono ?_); rintro e w1 ⟨v1, rfl, ho1, hbw1⟩; have HO1 := Lib.hid ho1; clear ho1; have hs1 := hbw1.size; simp at hs1))
    go_ret
    exact ⟨_, rfl, HO1.out.more (by simp), by ((repeat' (first | (with_reducible exact Below.refl _ _) | (with_reducible assumption) | (with_reducible refine Below.setCell ?_ ?_ _) | (with_reducible refine Below.alloc ?_ ?_ _) | (with_reducible refine Below.drew ?_) | (with_reducible refine below_drewN ?_ _) | (with_reducible refine Below.step (by with_reducible assumption) ?_ ?_))) <;> (first | omega | (simp; done) | (simp; omega)))⟩
  · obtain ⟨A5, k5, rfl⟩ : ∃ A5 k5, v5 = .slice A5 ks.length k5 := by obtain ⟨A5, k5, h, _⟩ := h5; exact ⟨A5, k5, h⟩
    have hgd : ks.getD 1 [] = [] := by simp [show ks.length ≤ 1 by omega]
    rw [hgd]
    have hnI : (ks.length : Int) ≤ 1 := by omega
    have hd1 : decide (ks.length ≤ 1) = true := decide_eq_true (by omega)
    clear h5 hk hgd hL
    generalize ks.length = n at *
    go_enter Tryz.func118, Tryz.ntmps118
    go_wp2_with fail
    go_ret
    exact ⟨_, rfl, OwB.nil_ _ _ _, by ((repeat' (first | (with_reducible exact Below.refl _ _) | (with_reducible assumption) | (with_reducible refine Below.setCell ?_ ?_ _) | (with_reducible refine Below.alloc ?_ ?_ _) | (with_reducible refine Below.drew ?_) | (with_reducible refine below_drewN ?_ _) | (with_reducible refine Below.step (by with_reducible assumption) ?_ ?_))) <;> (first | omega | (simp; done) | (simp; omega)))⟩

def RetAt (s l : List UInt8) (w : World) (e : Ending) (w' : World) : Prop := ∃ A k, e = .returned (.agg #[.string (bStr s), .slice A l.length k]) ∧ OwB w' w.heap.size 5 (.slice A l.length k) l ∧ Below w.heap.size w w'

theorem cells5 {W : World} {g : Nat} {t : TypeId} {a b c d e : Value} (h : Blk W g t #[a, b, c, d, e]) : W.cell? ⟨g, 0, none⟩ = some a ∧ W.cell? ⟨g, 1, none⟩ = some b ∧ W.cell? ⟨g, 2, none⟩ = some c ∧ W.cell? ⟨g, 3, none⟩ = some d ∧ W.cell? ⟨g, 4, none⟩ = some e :=
  ⟨h.q 0, h.q 1, h.q 2, h.q 3, h.q 4⟩
end Go.Proofs.YtjjkimjdmpeddaaGreatDoor
end

/- Walk over the reference's Parse of an attribute. -/
section
set_option linter.unusedSimpArgs false
set_option linter.unusedVariables false
namespace Go.Proofs.YtjjkimjdmpeddaaGreatDoor
open Go.RowKit Go.Cr

theorem sub_len (n : Nat) : 1 ≤ (subL n).length := by
  unfold subL b128
  split <;> simp
theorem flat_len_ge (ms : List Nat) : ms.length ≤ (ms.flatMap subL).length := by
  induction ms with
  | nil => simp
  | cons x t ih => have := sub_len x; simp only [List.flatMap_cons, List.length_append, List.length_cons]; omega
theorem oidD_len {c s : List UInt8} (h : oidD c = some s) : s.length ≤ 21 * (c.length + 1) := by
  have he := (oid_iff _ _).1 h
  unfold oidE at he
  cases ha : arcsL s with
  | none => rw [ha] at he; cases he
  | some ns =>
    rw [ha] at he
    injection he with he
    have h1 := arcsL_some ha
    have h2 := textL_len h1.2.2
    have h3 := flat_len_ge (subsL ns)
    have h4 : ns.length ≤ (subsL ns).length + 1 := by unfold subsL; split <;> simp
    have h5 : encL ns = (subsL ns).flatMap subL := rfl
    rw [← h5, he] at h3
    rw [h1.1] at h2
    omega

/-- What the parsers of attributes return. -/
def AtY (s l : List UInt8) (x : Value) (w : World) (e : Ending) (w' : World) : Prop := ∃ A k, e = .returned (.tuple #[.agg #[.string (bStr s), .slice A l.length k], x]) ∧ OwB w' w.heap.size 5 (.slice A l.length k) l ∧ Below w.heap.size w w'
def RetPA (r : Option (List UInt8 × List UInt8)) (w : World) (e : Ending) (w' : World) : Prop := match r with
  | none => RetB (.tuple #[.agg #[.string ⟨#[]⟩, .slice none 0 0], .bool false]) w e w'
  | some (s, l) => AtY s l (.bool true) w e w'
theorem kidsA_len (b : List UInt8) : (kidsA b).flatten.length ≤ b.length := by
  unfold kidsA
  split
  · unfold kidsT
    split
    · simp
    · rename_i h e
      split
      · simp
      · rename_i hc
        have hk := nextH_ok e
        have hl := cont_len e
        cases hs : scanL (readT 59) h.len.toNat (cont b h) with
        | none => simp
        | some ks =>
          have := scanL_flat _ hs
          simp only [Option.getD_some]
          rw [this]
          omega
  · simp

end Go.Proofs.YtjjkimjdmpeddaaGreatDoor
end

/- Walk over attribute.Parse. -/
section
set_option linter.unusedSimpArgs false
set_option linter.unusedVariables false
namespace Go.Proofs.YtjjkimjdmpeddaaGreatDoor
open Go.RowKit Go.Cr

theorem partsE_err {l : List UInt8} {c n ec eo : Int} (h : partsE l c n = .error (ec, eo)) : 0 < ec ∧ 0 ≤ eo ∧ eo ≤ l.length := by
  unfold partsE at h
  split at h
  · rename_i er he
    injection h with h
    subst h
    have := oneE_err he
    omega
  · rename_i x hx
    have hb := oneE_ok hx
    split at h
    · unfold listE at h
      split at h
      · injection h with h; injection h with h1 h2; omega
      · have := listAcc_err _ (by omega) (by omega) (by omega) h
        omega
    · injection h with h; injection h with h1 h2; omega

def RetPE (L : Nat) (w : World) (e : Ending) (w' : World) : Prop := Below w.heap.size w w' ∧ ∃ c o : Int, 0 < c ∧ 0 ≤ o ∧ o ≤ L ∧ e = .returned (.tuple #[.agg #[.string ⟨#[]⟩, .slice none 0 0], errV (c, o)])
def RetPB (r : Option (List UInt8 × List UInt8)) (L : Nat) (w : World) (e : Ending) (w' : World) : Prop := match r with
  | none => RetPE L w e w'
  | some (s, l) => AtY s l (errV (0, 0)) w e w'

/-- What Parts leaves where there are parts. -/
def RetPs (xs : List Elem) (w : World) (e : Ending) (w' : World) : Prop := ∃ A k, e = .returned (.tuple #[.slice A xs.length k, errV (0, 0)]) ∧ IsRS (fun b => w.heap.size ≤ b) w' (.slice A xs.length k) 6 xs.length (elCells xs) ∧ Below w.heap.size w w'
theorem parts_ok {v : Value} {b : List UInt8} {c n : Int} {xs : List Elem} (hL : b.length ≤ 100000) (hp : partsE b c n = .ok xs) (W : World) (h : IsB W v b) : Calls Tryz.prog 96 #[v, .int .i64 c, .int .i64 n] W (RetPs xs W) :=
  (parts_any v b c n W h (by omega)).mono fun e w' hh => by
    rw [hp] at hh
    obtain ⟨hb, ⟨er, he, h⟩ | ⟨xs', o, he, h1, h2⟩⟩ := hh
    · cases he
    · injection he with he; subst he
      obtain ⟨A, k, rfl⟩ := own_slice h2
      exact ⟨A, k, h1, IsRS.of_own h2, hb⟩
theorem rs_at {S : Nat → Prop} {w : World} {v : Value} {k n : Nat} {xs : List Value} {t e : TypeId} (h : IsRS S w v k n xs) (ht : Tryz.prog.underlying t = some (.slice e)) (hs : ∀ W, (sizeOf e).run Tryz.prog W = .ok k W) (kd : IntKind) {i : Int} (h0 : 0 ≤ i) (h1 : i < n) :
    ∃ b o, (∀ W : World, (Instr.indexAt t v (.int kd i)).run Tryz.prog W = .ok (.pointer (some ⟨b, o, none⟩)) W) ∧ S b ∧ b < w.heap.size ∧ ∀ j x, xs[i.toNat * k + j]? = some x → w.cell? ⟨b, o + j, none⟩ = some x := by
  obtain ⟨A, c, rfl, h2, h3, h4, h5⟩ := h
  obtain ⟨b, off, rfl, hb, hS, hc⟩ := h5 (by omega)
  refine ⟨b, off + i.toNat * k, fun W => ?_, hS, hb, fun j x hj => by rw [Nat.add_assoc]; exact hc _ _ hj⟩
  have hi : (0 ≤ i ∧ i < (n : Int)) := ⟨h0, h1⟩
  simp only [Instr.indexAt, asIntOf, Sem.run_bind, Sem.run_pure, Result.andThen, run_underlying ht, if_pos hi, hs]
  simp [Addr.add]
theorem elc_at {xs : List Elem} {b o : Nat} {w : World} {k : Nat} (hk : k < xs.length) {x : Elem} (hx : xs[k] = x) (h : ∀ j y, (elCells xs)[k * 6 + j]? = some y → w.cell? ⟨b, o + j, none⟩ = some y) :
    w.cell? ⟨b, o, none⟩ = some (.int .i64 x.cls) ∧ w.cell? ⟨b, o + 1, none⟩ = some (.int .i64 x.num) ∧ w.cell? ⟨b, o + 2, none⟩ = some (.bool x.con) ∧ w.cell? ⟨b, o + 3, none⟩ = some (.int .i64 x.start) ∧ w.cell? ⟨b, o + 4, none⟩ = some (.int .i64 x.body) ∧ w.cell? ⟨b, o + 5, none⟩ = some (.int .i64 x.stop) := by
  subst hx
  exact ⟨h 0 _ (elCells_at xs k hk 0 (by omega)), h 1 _ (elCells_at xs k hk 1 (by omega)), h 2 _ (elCells_at xs k hk 2 (by omega)), h 3 _ (elCells_at xs k hk 3 (by omega)), h 4 _ (elCells_at xs k hk 4 (by omega)), h 5 _ (elCells_at xs k hk 5 (by omega))⟩

theorem parts_two {v : Value} {b : List UInt8} {c n : Int} {x y : Elem} (hL : b.length ≤ 100000) (hp : partsE b c n = .ok [x, y]) (W : World) (h : IsB W v b) : Calls Tryz.prog 96 #[v, .int .i64 c, .int .i64 n] W
    (fun e w' => ∃ A k, e = .returned (.tuple #[.slice A 2 k, .agg #[.int .i64 0, .int .i64 0]]) ∧ IsRS (fun b => W.heap.size ≤ b) w' (.slice A 2 k) 6 2 (elCells [x, y]) ∧ Below W.heap.size W w') := parts_ok hL hp W h
theorem two_at {v : Value} {w : World} {x y : Elem} {B : Nat} (hr : IsRS (fun b => B ≤ b) w v 6 2 (elCells [x, y])) :
    (∃ b o, (∀ W : World, (Instr.indexAt 114 v (.int .i64 0)).run Tryz.prog W = .ok (.pointer (some ⟨b, o, none⟩)) W) ∧ B ≤ b ∧ b < w.heap.size ∧ w.cell? ⟨b, o, none⟩ = some (.int .i64 x.cls) ∧ w.cell? ⟨b, o + 1, none⟩ = some (.int .i64 x.num) ∧ w.cell? ⟨b, o + 2, none⟩ = some (.bool x.con) ∧ w.cell? ⟨b, o + 3, none⟩ = some (.int .i64 x.start) ∧ w.cell? ⟨b, o + 4, none⟩ = some (.int .i64 x.body) ∧ w.cell? ⟨b, o + 5, none⟩ = some (.int .i64 x.stop)) ∧
    (∃ b o, (∀ W : World, (Instr.indexAt 114 v (.int .i64 1)).run Tryz.prog W = .ok (.pointer (some ⟨b, o, none⟩)) W) ∧ B ≤ b ∧ b < w.heap.size ∧ w.cell? ⟨b, o, none⟩ = some (.int .i64 y.cls) ∧ w.cell? ⟨b, o + 1, none⟩ = some (.int .i64 y.num) ∧ w.cell? ⟨b, o + 2, none⟩ = some (.bool y.con) ∧ w.cell? ⟨b, o + 3, none⟩ = some (.int .i64 y.start) ∧ w.cell? ⟨b, o + 4, none⟩ = some (.int .i64 y.body) ∧ w.cell? ⟨b, o + 5, none⟩ = some (.int .i64 y.stop)) := by
  obtain ⟨b0, o0, hi0, hB0, hbl0, hc0⟩ := rs_at hr ulEl szEl .i64 (i := 0) (by omega) (by omega)
  obtain ⟨b1, o1, hi1, hB1, hbl1, hc1⟩ := rs_at hr ulEl szEl .i64 (i := 1) (by omega) (by omega)
  exact ⟨⟨b0, o0, hi0, hB0, hbl0, elc_at (xs := [x, y]) (k := 0) (by simp) rfl hc0⟩, ⟨b1, o1, hi1, hB1, hbl1, elc_at (xs := [x, y]) (k := 1) (by simp) rfl hc1⟩⟩

end Go.Proofs.YtjjkimjdmpeddaaGreatDoor
end
