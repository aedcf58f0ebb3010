/- The parts RefR, AttrW, AttrS, NdV, AttrP, Each, Sizes of one proof, one behind the other. -/
import Derived.Test.YtjjkimjdmpeddaaGreatDoorK13
import Derived.Test.YtjjkimjdmpeddaaGreatDoorK14
import Derived.Test.YtjjkimjdmpeddaaGreatDoorK03
import Derived.Test.YtjjkimjdmpeddaaGreatDoorK08
import Derived.Test.YtjjkimjdmpeddaaGreatDoorK06
import Derived.Deep.RegionHeld3
import Derived.Test.YtjjkimjdmpeddaaGreatDoorK01

/- Bytes compared; the reference's oid.Decode. -/
section
set_option linter.unusedSimpArgs false
set_option linter.unusedVariables false
namespace Go.Proofs.YtjjkimjdmpeddaaGreatDoor
open Go.RowKit Go.Cr Go.Sort Go.Shelf
theorem isB_bstr {w : World} {v : Value} {l : List UInt8} (h : IsB w v l) : (convert 32 9 v).run Tryz.prog w = .ok (.string (bStr l)) w := by
  rcases Nat.eq_zero_or_pos l.length with h0 | h0
  · have hl : l = [] := List.length_eq_zero_iff.1 h0
    subst hl
    rw [isB_str h]
    rfl
  · obtain ⟨A, c, rfl, h1, h2, h3⟩ := h
    obtain ⟨b, off, rfl, hb, hc⟩ := h3 h0
    exact run_convert_bytes_back (P := Tryz.prog) w 32 9 5 ⟨b, off, none⟩ c l ulB ulU8 ulStr (fun j hj => by
      rw [Lib.add_plain, hc j hj, bat_eq l j hj]; rfl)

set_option maxRecDepth 100000 in
set_option maxHeartbeats 2000000 in
theorem bytes_any (a b : Value) (la lb : List UInt8) (w : World) (ha : IsB w a la) (hb : IsB w b lb) :
    Calls Tryz.prog 21 #[a, b] w (RetB (.bool (decide (la = lb))) w) := by
  by_cases h : la = lb
  · subst h
    rw [decide_eq_true rfl]
    exact bytes_same a b la w ha hb
  · rw [decide_eq_false h]
    have h1 := isB_bstr ha
    have h2 := isB_bstr hb
    have hbs : ((bStr la).toList == (bStr lb).toList) = false := by rw [ByteArray.toList_eq, ByteArray.toList_eq]; exact beq_eq_false_iff_ne.2 h
    clear ha hb h
    generalize bStr la = s at *
    generalize bStr lb = s' at *
    go_enter Tryz.func21, Tryz.ntmps21
    go_wp2
    (refine bodyPost_retB (v := .bool false) (by (simp only [results, Tryz.results21]; try go_simp)) rfl rfl ?_; ((repeat' (first | (with_reducible exact Below.refl _ _) | (with_reducible assumption) | (with_reducible refine Below.setCell ?_ ?_ _) | (with_reducible refine Below.alloc ?_ ?_ _) | (with_reducible refine Below.drew ?_) | (with_reducible refine below_drewN ?_ _) | (with_reducible refine Below.step (by with_reducible assumption) ?_ ?_))) <;> (first | omega | (simp; done) | (simp; omega))))

def RetOidY (c : List UInt8) (w : World) (e : Ending) (w' : World) : Prop := ∃ v, e = .returned (.tuple #[v, .int .i64 0]) ∧ OwB w' w.heap.size 5 v c ∧ Below w.heap.size w w'
theorem RetOid.yes {c : List UInt8} {w : World} {e : Ending} {w' : World} (h : RetOid (some c) w e w') : RetOidY c w e w' := by
  obtain ⟨hb, ⟨h, _⟩ | ⟨c', v, h, rfl, hu⟩⟩ := h
  · cases h
  · cases h; exact ⟨v, rfl, hu, hb⟩
theorem RetOid.no {w : World} {e : Ending} {w' : World} (h : RetOid none w e w') : RetB (.tuple #[.slice none 0 0, .int .i64 8]) w e w' := by
  obtain ⟨hb, ⟨h, rfl⟩ | ⟨c', v, h, rfl, hu⟩⟩ := h
  · exact ⟨rfl, hb⟩
  · cases h

end Go.Proofs.YtjjkimjdmpeddaaGreatDoor
end

/- Walks over attribute.Valid and Marshal, and the reference's. -/
section
set_option linter.unusedSimpArgs false
set_option linter.unusedVariables false
namespace Go.Proofs.YtjjkimjdmpeddaaGreatDoor
open Go.RowKit Go.Cr
theorem oidE_len {l c : List UInt8} (h : oidE l = some c) : c.length ≤ 5 * (l.length + 1) := by
  unfold oidE at h
  cases ha : arcsL l with
  | none => rw [ha] at h; cases h
  | some ns =>
    rw [ha] at h
    injection h with h
    subst h
    have h1 := arcsL_len ha
    have h2 := flat_take_len (subsL ns) (subsL ns).length
    rw [List.take_length] at h2
    have h3 : (subsL ns).length ≤ ns.length := by unfold subsL; split <;> simp
    unfold encL
    omega

theorem isBs_one {w : World} {t : TypeId} {g : Nat} {a : Value} {la : List UInt8} (hg : g = w.heap.size) (ha : IsB w a la) : IsBs (w.alloc (.cells #[a] t)) (.slice (some ⟨g, 0, none⟩) 1 1) [la] := by
  subst hg
  refine ⟨[a], ⟨some ⟨w.heap.size, 0, none⟩, 1, rfl, Nat.le_refl _, by decide, rfl, fun _ => ⟨w.heap.size, 0, rfl, by simp, fun j x hj => ?_⟩⟩, fun j hj => ?_⟩
  · rw [Nat.zero_add, World.cell?_alloc_new]
    simpa using hj
  · match j, hj with
    | 0, _ => exact ha.alloc _
theorem isBs_two {w : World} {t : TypeId} {g : Nat} {a b : Value} {la lb : List UInt8} (hg : g = w.heap.size) (ha : IsB w a la) (hb : IsB w b lb) : IsBs (w.alloc (.cells #[a, b] t)) (.slice (some ⟨g, 0, none⟩) 2 2) [la, lb] := by
  subst hg
  refine ⟨[a, b], ⟨some ⟨w.heap.size, 0, none⟩, 2, rfl, Nat.le_refl _, by decide, rfl, fun _ => ⟨w.heap.size, 0, rfl, by simp, fun j x hj => ?_⟩⟩, fun j hj => ?_⟩
  · rw [Nat.zero_add, World.cell?_alloc_new]
    simpa using hj
  · match j, hj with
    | 0, _ => exact ha.alloc _
    | 1, _ => exact hb.alloc _

end Go.Proofs.YtjjkimjdmpeddaaGreatDoor
end

/- Walks over the reference's Read of an attribute. -/
section
set_option linter.unusedSimpArgs false
set_option linter.unusedVariables false
namespace Go.Proofs.YtjjkimjdmpeddaaGreatDoor
open Go.RowKit Go.Cr
theorem isNode_open {S : Nat → Prop} {d : Nat} {w : World} {cs : List Value} {l : List UInt8} (h : IsNode S (d + 1) w cs l) :
    ∃ (c1 c2 : Int) (c3 : Bool) (v4 v5 : Value) (xs : List Value), cs = [.int .i64 c1, .int .i64 c2, .bool c3, v4, v5] ∧ IsB w v4 (kidC l) ∧ IsR w v5 5 (kidsT d l).length xs ∧
      (∀ j (hj : j < (kidsT d l).length), IsNode S d w ((xs.drop (j * 5)).take 5) (kidsT d l)[j]) ∧ (kidsT d l).flatten.length ≤ l.length := by
  obtain ⟨hd, v4, v5, ks, xs, h1, h2, h3, h4, h5, h6, h7⟩ := h
  have hkid : kidsT d l = ks := by
    unfold kidsT
    rw [h1]
    cases hc : hd.con with
    | false => rw [hc] at h6; simp only [Bool.false_eq_true, if_false] at h6; simp [hc, h6]
    | true =>
      rw [hc, if_pos rfl] at h6
      have hl := cont_len h1
      simp only [hc, Bool.true_eq_false, if_false]
      rw [← h6, scanL_of ks _ (fun p hp => by
        obtain ⟨j, hj, rfl⟩ := List.getElem_of_mem hp
        exact (h7 j hj).1) (by rw [h6]; omega)]
      rfl
  have hkc : kidC l = if hd.con then [] else cont l hd := by unfold kidC; rw [h1]
  have hkk := nextH_ok h1
  have hcl := cont_len h1
  refine ⟨hd.cls, hd.num, hd.con, v4, v5, xs, h3, ?_, ?_, ?_, ?_⟩
  · rw [hkc]; exact h4.isR.bytes
  · rw [hkid]; exact h5.isR
  · rw [hkid]; exact fun j hj => (h7 j hj).2
  · rw [hkid]
    cases hc : hd.con with
    | false => rw [hc] at h6; simp only [Bool.false_eq_true, if_false] at h6; simp [h6]
    | true => rw [hc, if_pos rfl] at h6; rw [h6]; omega
theorem kidC_len (p : List UInt8) : (kidC p).length ≤ p.length := by
  unfold kidC
  split
  · simp
  · rename_i h e
    have := nextH_ok e
    have := cont_len e
    split
    · simp
    · omega
theorem getD_len (ks : List (List UInt8)) (j : Nat) : (ks.getD j []).length ≤ ks.flatten.length := by
  induction ks generalizing j with
  | nil => simp
  | cons x t ih =>
    cases j with
    | zero => simp
    | succ j => have := ih j; simp only [List.getD_cons_succ, List.flatten_cons, List.length_append]; omega

theorem isB_nil0 (w : World) : IsB w (.slice none 0 0) [] := ⟨none, 0, rfl, Nat.le_refl _, by decide, fun h => absurd h (by simp)⟩

end Go.Proofs.YtjjkimjdmpeddaaGreatDoor
end

/- Nodes as values: what the reference's readers do with a node, or with none. -/
section
set_option linter.unusedSimpArgs false
set_option linter.unusedVariables false
namespace Go.Proofs.YtjjkimjdmpeddaaGreatDoor
open Go.RowKit Go.Cr
theorem nextH_nil : ∃ e, nextH [] = .error e := ⟨_, rfl⟩
theorem kidsT_nil (d : Nat) : kidsT d [] = [] := by obtain ⟨e, h⟩ := nextH_nil; unfold kidsT; rw [h]
theorem kidC_nil : kidC [] = [] := by obtain ⟨e, h⟩ := nextH_nil; unfold kidC; rw [h]
def NdV (d : Nat) (w : World) (nv : Value) (l : List UInt8) : Prop := ∃ (c1 c2 : Int) (c3 : Bool) (a4 a5 : Option Addr) (n4 k4 n5 k5 : Nat), nv = .agg #[.int .i64 c1, .int .i64 c2, .bool c3, .slice a4 n4 k4, .slice a5 n5 k5] ∧
  ((∃ S, IsNode S d w [.int .i64 c1, .int .i64 c2, .bool c3, .slice a4 n4 k4, .slice a5 n5 k5] l) ∨ (l = [] ∧ nv = .agg #[.int .i64 0, .int .i64 0, .bool false, .slice none 0 0, .slice none 0 0]))
theorem NdV.below {d : Nat} {w w' : World} {nv : Value} {l : List UInt8} (h : NdV d w nv l) (hb : Below w.heap.size w w') : NdV d w' nv l := by
  obtain ⟨c1, c2, c3, a4, a5, n4, k4, n5, k5, e, h⟩ := h
  refine ⟨c1, c2, c3, a4, a5, n4, k4, n5, k5, e, ?_⟩
  rcases h with ⟨S, h⟩ | h
  · exact .inl ⟨S, h.below hb⟩
  · exact .inr h
theorem NdV.zero (d : Nat) (w : World) : NdV d w (.agg #[.int .i64 0, .int .i64 0, .bool false, .slice none 0 0, .slice none 0 0]) [] := ⟨0, 0, false, none, none, 0, 0, 0, 0, rfl, .inr ⟨rfl, rfl⟩⟩
theorem NdV.of {S : Nat → Prop} {d : Nat} {w : World} {c1 c2 : Int} {c3 : Bool} {a4 a5 : Option Addr} {n4 k4 n5 k5 : Nat} {l : List UInt8} (h : IsNode S d w [.int .i64 c1, .int .i64 c2, .bool c3, .slice a4 n4 k4, .slice a5 n5 k5] l) : NdV d w (.agg #[.int .i64 c1, .int .i64 c2, .bool c3, .slice a4 n4 k4, .slice a5 n5 k5]) l :=
  ⟨_, _, _, _, _, _, _, _, _, rfl, .inl ⟨S, h⟩⟩
theorem NdV.open_ {d : Nat} {w : World} {nv : Value} {l : List UInt8} (h : NdV (d + 1) w nv l) :
    ∃ (c1 c2 : Int) (c3 : Bool) (a4 a5 : Option Addr) (n4 k4 n5 k5 : Nat) (S : Nat → Prop) (xs : List Value), nv = .agg #[.int .i64 c1, .int .i64 c2, .bool c3, .slice a4 n4 k4, .slice a5 n5 k5] ∧ IsB w (.slice a4 n4 k4) (kidC l) ∧ n5 = (kidsT d l).length ∧ IsR w (.slice a5 n5 k5) 5 n5 xs ∧
      (∀ j (hj : j < (kidsT d l).length), IsNode S d w ((xs.drop (j * 5)).take 5) (kidsT d l)[j]) ∧ (kidsT d l).flatten.length ≤ l.length := by
  obtain ⟨c1, c2, c3, a4, a5, n4, k4, n5, k5, e, h⟩ := h
  rcases h with ⟨S, h⟩ | ⟨hl, e2⟩
  · obtain ⟨x1, x2, x3, v4, v5, xs, he, h1, h2, h3, h4⟩ := isNode_open h
    injection he with e1 he; injection he with e2 he; injection he with e3 he; injection he with e4 he; injection he with e5 he
    subst e4 e5
    have hn : n5 = (kidsT d l).length := by
      obtain ⟨A, c, hv, _⟩ := h2
      injection hv
    subst hn
    exact ⟨c1, c2, c3, a4, a5, n4, k4, _, k5, S, xs, e, h1, rfl, h2, h3, h4⟩
  · subst hl
    rw [e] at e2
    injection e2 with e2
    injection e2 with e2
    injection e2 with e10 e2; injection e2 with e11 e2; injection e2 with e12 e2; injection e2 with e13 e2; injection e2 with e14 e2
    injection e13 with e15 e16 e17
    injection e14 with e18 e19 e20
    subst e15 e16 e17 e18 e19 e20
    refine ⟨c1, c2, c3, none, none, 0, 0, 0, 0, fun _ => True, [], e, by rw [kidC_nil]; exact isB_nil0 w, by rw [kidsT_nil]; rfl, ⟨none, 0, rfl, Nat.le_refl _, by decide, rfl, fun h => absurd h (by omega)⟩, ?_, by rw [kidsT_nil]; simp⟩
    rw [kidsT_nil]
    exact fun j hj => absurd hj (by simp)
theorem NdV.shape {d : Nat} {w : World} {nv : Value} {l : List UInt8} (h : NdV d w nv l) : ∃ (c1 c2 : Int) (c3 : Bool) (a4 a5 : Option Addr) (n4 k4 n5 k5 : Nat), nv = .agg #[.int .i64 c1, .int .i64 c2, .bool c3, .slice a4 n4 k4, .slice a5 n5 k5] := by
  obtain ⟨c1, c2, c3, a4, a5, n4, k4, n5, k5, e, _⟩ := h
  exact ⟨_, _, _, _, _, _, _, _, _, e⟩

set_option maxRecDepth 100000 in
set_option maxHeartbeats 4000000 in
theorem rKid_none (i : Nat) (c1 c2 : Int) (c3 : Bool) (v4 v5 : Value) (n : Nat) (xs : List Value) (w : World) (h4 : v4.oneCell' = true) (h5 : IsR w v5 5 n xs) (hn : n ≤ i) :
    Calls Tryz.prog 102 #[.agg #[.int .i64 c1, .int .i64 c2, .bool c3, v4, v5], .int .i64 (i : Int)] w (RetB (.agg #[.int .i64 0, .int .i64 0, .bool false, .slice none 0 0, .slice none 0 0]) w) := by
  have hl5 := h5.len (P := Tryz.prog) ulNodes
  obtain ⟨A5, k5, rfl⟩ : ∃ A5 k5, v5 = .slice A5 n k5 := by obtain ⟨A5, k5, h, _⟩ := h5; exact ⟨A5, k5, h⟩
  have hneg : decide ((i : Int) < 0) = false := decide_eq_false (by omega)
  have hd1 : decide (n ≤ i) = true := decide_eq_true hn
  have hd2 : decide ((i : Int) ≥ n) = true := decide_eq_true (by omega)
  clear h5 hn
  go_enter Tryz.func102, Tryz.ntmps102
  go_wp2_with fail
  (refine bodyPost_retB (v := .agg #[.int .i64 0, .int .i64 0, .bool false, .slice none 0 0, .slice none 0 0]) (by (simp only [results, Tryz.results102]; try go_simp)) rfl rfl ?_; ((repeat' (first | (with_reducible exact Below.refl _ _) | (with_reducible assumption) | (with_reducible refine Below.setCell ?_ ?_ _) | (with_reducible refine Below.alloc ?_ ?_ _) | (with_reducible refine Below.drew ?_) | (with_reducible refine below_drewN ?_ _) | (with_reducible refine Below.step (by with_reducible assumption) ?_ ?_))) <;> (first | omega | (simp; done) | (simp; omega))))

set_option maxRecDepth 100000 in
set_option maxHeartbeats 4000000 in
theorem rKid_some (i : Nat) (c1 c2 : Int) (c3 : Bool) (v4 v5 : Value) (n : Nat) (xs : List Value) (w : World) (h4 : v4.oneCell' = true) (h5 : IsR w v5 5 n xs) (hn : i < n)
    (x1 x2 : Int) (x3 : Bool) (y4 y5 : Option Addr) (m4 z4 m5 z5 : Nat) (hx : (xs.drop (i * 5)).take 5 = [.int .i64 x1, .int .i64 x2, .bool x3, .slice y4 m4 z4, .slice y5 m5 z5]) :
    Calls Tryz.prog 102 #[.agg #[.int .i64 c1, .int .i64 c2, .bool c3, v4, v5], .int .i64 (i : Int)] w (RetB (.agg #[.int .i64 x1, .int .i64 x2, .bool x3, .slice y4 m4 z4, .slice y5 m5 z5]) w) := by
  have hl5 := h5.len (P := Tryz.prog) ulNodes
  obtain ⟨b, o, hi, hbl, hcx⟩ := h5.at_ (P := Tryz.prog) ulNodes szNode .i64 (i := (i : Int)) (by omega) (by omega)
  rw [Int.toNat_natCast] at hcx
  obtain ⟨A5, k5, rfl⟩ : ∃ A5 k5, v5 = .slice A5 n k5 := by obtain ⟨A5, k5, h, _⟩ := h5; exact ⟨A5, k5, h⟩
  have p0 := hcx 0 _ (take5_at hx 0 (by omega))
  have p1 := hcx 1 _ (take5_at hx 1 (by omega))
  have p2 := hcx 2 _ (take5_at hx 2 (by omega))
  have p3 := hcx 3 _ (take5_at hx 3 (by omega))
  have p4 := hcx 4 _ (take5_at hx 4 (by omega))
  rw [Nat.add_zero] at p0
  have hneg : decide ((i : Int) < 0) = false := decide_eq_false (by omega)
  have hnI : (i : Int) < n := by omega
  have hd1 : decide (n ≤ i) = false := decide_eq_false (by omega)
  have hd2 : decide ((i : Int) ≥ n) = false := decide_eq_false (by omega)
  clear h5 hcx hx
  go_enter Tryz.func102, Tryz.ntmps102
  go_wp2_with fail
  (refine bodyPost_retB (v := .agg #[.int .i64 x1, .int .i64 x2, .bool x3, .slice y4 m4 z4, .slice y5 m5 z5]) (by (simp only [results, Tryz.results102]; try go_simp)) rfl rfl ?_; ((repeat' (first | (with_reducible exact Below.refl _ _) | (with_reducible assumption) | (with_reducible refine Below.setCell ?_ ?_ _) | (with_reducible refine Below.alloc ?_ ?_ _) | (with_reducible refine Below.drew ?_) | (with_reducible refine below_drewN ?_ _) | (with_reducible refine Below.step (by with_reducible assumption) ?_ ?_))) <;> (first | omega | (simp; done) | (simp; omega))))

theorem rKid {d : Nat} {nv : Value} {l : List UInt8} {w : World} (h : NdV (d + 1) w nv l) (i : Nat) :
    ∃ nv', NdV d w nv' ((kidsT d l).getD i []) ∧ ∀ W, Below w.heap.size w W → Calls Tryz.prog 102 #[nv, .int .i64 (i : Int)] W (RetB nv' W) := by
  obtain ⟨c1, c2, c3, a4, a5, n4, k4, n5, k5, S, xs, rfl, h4, rfl, h5, hk, _⟩ := h.open_
  by_cases hi : i < (kidsT d l).length
  · have hnd := hk i hi
    obtain ⟨x1, x2, x3, y4, y5, m4, z4, m5, z5, hx⟩ := hnd.shape
    rw [hx] at hnd
    refine ⟨_, ?_, fun W hW => rKid_some i c1 c2 c3 _ _ _ xs W rfl (h5.below hW) hi x1 x2 x3 y4 y5 m4 z4 m5 z5 hx⟩
    have : (kidsT d l).getD i [] = (kidsT d l)[i] := by simp [hi]
    rw [this]
    exact NdV.of hnd
  · refine ⟨_, ?_, fun W hW => rKid_none i c1 c2 c3 _ _ _ xs W rfl (h5.below hW) (by omega)⟩
    have : (kidsT d l).getD i [] = [] := by simp [show (kidsT d l).length ≤ i by omega]
    rw [this]
    exact NdV.zero d w
theorem NdV.row {d : Nat} {nv : Value} {l : List UInt8} {w : World} (h : NdV (d + 1) w nv l) :
    ∃ (c1 c2 : Int) (c3 : Bool) (a4 a5 : Option Addr) (n4 k4 k5 : Nat), nv = .agg #[.int .i64 c1, .int .i64 c2, .bool c3, .slice a4 n4 k4, .slice a5 (kidsT d l).length k5] ∧ (∃ xs, IsR w (.slice a5 (kidsT d l).length k5) 5 (kidsT d l).length xs) ∧
      ∀ i (hi : i < (kidsT d l).length), ∃ (b o : Nat) (x1 x2 : Int) (x3 : Bool) (y4 y5 : Option Addr) (m4 z4 m5 z5 : Nat), (∀ W : World, (Instr.indexAt 89 (.slice a5 (kidsT d l).length k5) (.int .i64 (i : Int))).run Tryz.prog W = .ok (.pointer (some ⟨b, o, none⟩)) W) ∧ b < w.heap.size ∧
        w.cell? ⟨b, o, none⟩ = some (.int .i64 x1) ∧ w.cell? ⟨b, o + 1, none⟩ = some (.int .i64 x2) ∧ w.cell? ⟨b, o + 2, none⟩ = some (.bool x3) ∧ w.cell? ⟨b, o + 3, none⟩ = some (.slice y4 m4 z4) ∧ w.cell? ⟨b, o + 4, none⟩ = some (.slice y5 m5 z5) ∧
        NdV d w (.agg #[.int .i64 x1, .int .i64 x2, .bool x3, .slice y4 m4 z4, .slice y5 m5 z5]) (kidsT d l)[i] := by
  obtain ⟨c1, c2, c3, a4, a5, n4, k4, n5, k5, S, xs, rfl, h4, rfl, h5, hk, _⟩ := h.open_
  refine ⟨c1, c2, c3, a4, a5, n4, k4, k5, rfl, ⟨xs, h5⟩, fun i hi => ?_⟩
  obtain ⟨b, o, hia, hbl, hcx⟩ := h5.at_ (P := Tryz.prog) ulNodes szNode .i64 (i := (i : Int)) (by omega) (by omega)
  rw [Int.toNat_natCast] at hcx
  have hnd := hk i hi
  obtain ⟨x1, x2, x3, y4, y5, m4, z4, m5, z5, hx⟩ := hnd.shape
  rw [hx] at hnd
  have p0 := hcx 0 _ (take5_at hx 0 (by omega))
  have p1 := hcx 1 _ (take5_at hx 1 (by omega))
  have p2 := hcx 2 _ (take5_at hx 2 (by omega))
  have p3 := hcx 3 _ (take5_at hx 3 (by omega))
  have p4 := hcx 4 _ (take5_at hx 4 (by omega))
  rw [Nat.add_zero] at p0
  exact ⟨b, o, x1, x2, x3, y4, y5, m4, z4, m5, z5, hia, hbl, p0, p1, p2, p3, p4, NdV.of hnd⟩
theorem rDeepV (v : Value) (b : List UInt8) (w : World) (hv : IsB w v b) (hL : b.length ≤ 1000000) :
    Calls Tryz.prog 64 #[v] w (fun e w' => ∃ nv t, e = .returned (.tuple #[nv, .bool t]) ∧ NdV 60 w' nv (if treeOK 60 b then b else []) ∧ Below w.heap.size w w') := by
  by_cases ht : treeOK 60 b
  · refine (rDeep_yes v b w hv hL ht).mono fun e w' ⟨hb, c1, c2, c3, a4, a5, n4, k4, n5, k5, he, hn⟩ => ⟨_, true, he, ?_, hb⟩
    rw [if_pos ht]
    exact NdV.of hn
  · refine (rDeep_no v b w hv hL ht).mono fun e w' ⟨he, hb⟩ => ⟨_, false, he, ?_, hb⟩
    rw [if_neg ht]
    exact NdV.zero 60 w'
theorem kidsA_eq (b : List UInt8) : kidsT 59 (if treeOK 60 b then b else []) = kidsA b := by
  unfold kidsA
  split
  · rfl
  · exact kidsT_nil 59
end Go.Proofs.YtjjkimjdmpeddaaGreatDoor
end

/- Walk over attribute.Parse. -/
section
set_option linter.unusedSimpArgs false
set_option linter.unusedVariables false
namespace Go.Proofs.YtjjkimjdmpeddaaGreatDoor
open Go.RowKit Go.Cr
theorem partsE_err {l : List UInt8} {c n ec eo : Int} (h : partsE l c n = .error (ec, eo)) : 0 < ec ∧ 0 ≤ eo ∧ eo ≤ l.length := by
  unfold partsE at h
  split at h
  · rename_i er he
    injection h with h
    subst h
    have := oneE_err he
    omega
  · rename_i x hx
    have hb := oneE_ok hx
    split at h
    · unfold listE at h
      split at h
      · injection h with h; injection h with h1 h2; omega
      · have := listAcc_err _ (by omega) (by omega) (by omega) h
        omega
    · injection h with h; injection h with h1 h2; omega

def RetPs (xs : List Elem) (w : World) (e : Ending) (w' : World) : Prop := ∃ A k, e = .returned (.tuple #[.slice A xs.length k, errV (0, 0)]) ∧ IsRS (fun b => w.heap.size ≤ b) w' (.slice A xs.length k) 6 xs.length (elCells xs) ∧ Below w.heap.size w w'
theorem parts_ok {v : Value} {b : List UInt8} {c n : Int} {xs : List Elem} (hL : b.length ≤ 100000) (hp : partsE b c n = .ok xs) (W : World) (h : IsB W v b) : Calls Tryz.prog 96 #[v, .int .i64 c, .int .i64 n] W (RetPs xs W) :=
  (parts_any v b c n W h (by omega)).mono fun e w' hh => by
    rw [hp] at hh
    obtain ⟨hb, ⟨er, he, h⟩ | ⟨xs', o, he, h1, h2⟩⟩ := hh
    · cases he
    · injection he with he; subst he
      obtain ⟨A, k, rfl⟩ := own_slice h2
      exact ⟨A, k, h1, IsRS.of_own h2, hb⟩
theorem rs_at {S : Nat → Prop} {w : World} {v : Value} {k n : Nat} {xs : List Value} {t e : TypeId} (h : IsRS S w v k n xs) (ht : Tryz.prog.underlying t = some (.slice e)) (hs : ∀ W, (sizeOf e).run Tryz.prog W = .ok k W) (kd : IntKind) {i : Int} (h0 : 0 ≤ i) (h1 : i < n) :
    ∃ b o, (∀ W : World, (Instr.indexAt t v (.int kd i)).run Tryz.prog W = .ok (.pointer (some ⟨b, o, none⟩)) W) ∧ S b ∧ b < w.heap.size ∧ ∀ j x, xs[i.toNat * k + j]? = some x → w.cell? ⟨b, o + j, none⟩ = some x := by
  obtain ⟨A, c, rfl, h2, h3, h4, h5⟩ := h
  obtain ⟨b, off, rfl, hb, hS, hc⟩ := h5 (by omega)
  refine ⟨b, off + i.toNat * k, fun W => ?_, hS, hb, fun j x hj => by rw [Nat.add_assoc]; exact hc _ _ hj⟩
  have hi : (0 ≤ i ∧ i < (n : Int)) := ⟨h0, h1⟩
  simp only [Instr.indexAt, asIntOf, Sem.run_bind, Sem.run_pure, Result.andThen, run_underlying ht, if_pos hi, hs]
  simp [Addr.add]
theorem elc_at {xs : List Elem} {b o : Nat} {w : World} {k : Nat} (hk : k < xs.length) {x : Elem} (hx : xs[k] = x) (h : ∀ j y, (elCells xs)[k * 6 + j]? = some y → w.cell? ⟨b, o + j, none⟩ = some y) :
    w.cell? ⟨b, o, none⟩ = some (.int .i64 x.cls) ∧ w.cell? ⟨b, o + 1, none⟩ = some (.int .i64 x.num) ∧ w.cell? ⟨b, o + 2, none⟩ = some (.bool x.con) ∧ w.cell? ⟨b, o + 3, none⟩ = some (.int .i64 x.start) ∧ w.cell? ⟨b, o + 4, none⟩ = some (.int .i64 x.body) ∧ w.cell? ⟨b, o + 5, none⟩ = some (.int .i64 x.stop) := by
  subst hx
  exact ⟨h 0 _ (elCells_at xs k hk 0 (by omega)), h 1 _ (elCells_at xs k hk 1 (by omega)), h 2 _ (elCells_at xs k hk 2 (by omega)), h 3 _ (elCells_at xs k hk 3 (by omega)), h 4 _ (elCells_at xs k hk 4 (by omega)), h 5 _ (elCells_at xs k hk 5 (by omega))⟩

end Go.Proofs.YtjjkimjdmpeddaaGreatDoor
end

/- Walk over policy.each: what it does with a function that keeps an invariant. -/
section
set_option linter.unusedSimpArgs false
set_option linter.unusedVariables false
namespace Go.Proofs.YtjjkimjdmpeddaaGreatDoor
open Go.RowKit Go.Cr
set_option maxRecDepth 100000 in
set_option maxHeartbeats 2000000 in
theorem polBad (o : Int) (w : World) : Calls Tryz.prog 62 #[.int .i64 o] w (RetB (errV (6, o)) w) := by
  go_enter Tryz.func62, Tryz.ntmps62
  go_wp2_with fail
  (refine bodyPost_retB (v := errV (6, o)) (by (simp only [results, Tryz.results62]; try go_simp)) rfl rfl ?_; ((repeat' (first | (with_reducible exact Below.refl _ _) | (with_reducible assumption) | (with_reducible refine Below.setCell ?_ ?_ _) | (with_reducible refine Below.alloc ?_ ?_ _) | (with_reducible refine Below.drew ?_) | (with_reducible refine below_drewN ?_ _) | (with_reducible refine Below.step (by with_reducible assumption) ?_ ?_))) <;> (first | omega | (simp; done) | (simp; omega))))

def FnEach (B : Nat) (k : Nat) (lb : Array Value) (ls : List (List UInt8)) (good : Nat → Bool) (base : Nat) (Tp : TypeId → Prop) (Inv : Nat → World → Prop) : Prop :=
  ∀ i (hi : i < ls.length) W u, Inv i W → OldB B u ls[i] W → Calls Tryz.prog k (#[.int .i64 (i : Int), u] ++ lb) W (fun e w' => e = .returned (.bool (good i)) ∧ Inv (i + 1) w' ∧ Far base Tp W.heap.size W w')
def RetEa (okv : Bool) (L : Nat) (base : Nat) (Tp : TypeId → Prop) (Fin Any : World → Prop) (w : World) (e : Ending) (w' : World) : Prop :=
  Far base Tp w.heap.size w w' ∧ ((okv = true ∧ e = .returned (errV (0, 0)) ∧ Fin w') ∨ (okv = false ∧ ∃ ec eo : Int, 0 < ec ∧ 0 ≤ eo ∧ eo ≤ L ∧ e = .returned (errV (ec, eo)) ∧ Any w'))

set_option maxRecDepth 100000 in
set_option maxHeartbeats 4000000 in
theorem each_err (v : Value) (b : List UInt8) (least most : Nat) (k : Nat) (lb : Array Value) (w : World) (ec eo : Int) (hv : IsB w v b) (hL : b.length ≤ 100000) (hp : partsE b 0 16 = .error (ec, eo)) :
    Calls Tryz.prog 58 #[v, .int .i64 (least : Int), .int .i64 (most : Int), .func (.func k) #[] lb] w (RetB (errV (ec, eo)) w) := by
  obtain ⟨h1, h2, h3⟩ := partsE_err hp
  have HP : Hid (∀ W, IsB W v b → Calls Tryz.prog 96 #[v, .int .i64 0, .int .i64 16] W (RetB (.tuple #[.slice none 0 0, errV (ec, eo)]) W)) := fun W h => (parts_any v b 0 16 W h (by omega)).mono fun e w' hh => by
    rw [hp] at hh
    obtain ⟨hb, ⟨er, he, h⟩ | ⟨xs, o, he, _⟩⟩ := hh
    · injection he with he; subst he; exact ⟨h, hb⟩
    · cases he
  obtain ⟨A, c, rfl⟩ := isB_slice hv
  have HV := Lib.hid hv
  simp only [errV] at HP
  have hn : (ec == 0) = false := beq_eq_false_iff_ne.2 (by omega)
  have hn' : (ec != 0) = true := by simp; omega
  clear hv hp
  go_enter Tryz.func58, Tryz.ntmps58
  go_wp2_with (((go_at_call 96); (with_reducible refine (HP.out _ (HV.out.alloc _)).mono ?_); rintro e w1 ⟨rfl, hbw1⟩; obtain ⟨hcw1, hfw1⟩ := bcell hbw1; have hzw1 := hbw1.size; (try simp at hzw1); have hyw1 : w.heap.size < w1.heap.size := (by omega); (try have hyaw1 : w.heap.size + 1 < w1.heap.size := (by omega)); (try have hybw1 : w.heap.size + 2 < w1.heap.size := (by omega)); (try have hycw1 : w.heap.size + 3 < w1.heap.size := (by omega)); (try have hydw1 : w.heap.size + 4 < w1.heap.size := (by omega)); clear hzw1; have K0 := Blk.call (Blk.new w 38 #[.int .i64 0, .int .i64 0]) hbw1; have lK0 := K0.lt; have qK0 := K0.q; have rK0 := K0.fz; have K0' := Lib.hid K0; clear K0; have K0 := K0'.out; clear K0'))
  refine bodyPost_ret (v := errV (ec, eo)) (by simp only [results, Tryz.results58]; go_simp) rfl ?_
  have s1 := hbw1.size
  simp at s1
  have b1 : Below w.heap.size w w1 := ((Below.refl _ w).alloc (Nat.le_refl _) _).trans (hbw1.mono (by simp))
  exact ⟨rfl, by ((repeat' (first | (with_reducible exact Below.refl _ _) | (with_reducible assumption) | (with_reducible refine Below.setCell ?_ ?_ _) | (with_reducible refine Below.alloc ?_ ?_ _) | (with_reducible refine Below.drew ?_) | (with_reducible refine below_drewN ?_ _) | (with_reducible refine Below.step (by with_reducible assumption) ?_ ?_))) <;> (first | omega | (simp; done) | (simp; omega)))⟩

set_option maxRecDepth 100000 in
set_option maxHeartbeats 4000000 in
theorem each_few (v : Value) (b : List UInt8) (least most : Nat) (k : Nat) (lb : Array Value) (w : World) (xs : List Elem) (hv : IsB w v b) (hL : b.length ≤ 100000) (hp : partsE b 0 16 = .ok xs) (hn : ¬ (least ≤ xs.length ∧ xs.length ≤ most)) :
    Calls Tryz.prog 58 #[v, .int .i64 (least : Int), .int .i64 (most : Int), .func (.func k) #[] lb] w (RetB (errV (6, 0)) w) := by
  have HP := Lib.hid (fun W h => parts_ok (v := v) hL hp W h)
  obtain ⟨A, c, rfl⟩ := isB_slice hv
  have HV := Lib.hid hv
  have HF := Lib.hid (polBad 0)
  simp only [errV] at HP HF
  clear hv hp
  generalize elCells xs = cells at *
  have h3 : xs.length < least ∨ (least ≤ xs.length ∧ most < xs.length) := by omega
  clear hn
  rcases h3 with h1 | ⟨h1, h2⟩
  all_goals
    go_enter Tryz.func58, Tryz.ntmps58
    go_wp2_with (first | ((go_at_call 96); (with_reducible refine (HP.out _ (HV.out.alloc _)).mono ?_); rintro e w1 ⟨A5, k5, rfl, hr, hbw1⟩; obtain ⟨hcw1, hfw1⟩ := bcell hbw1; have hzw1 := hbw1.size; (try simp at hzw1); have hyw1 : w.heap.size < w1.heap.size := (by omega); (try have hyaw1 : w.heap.size + 1 < w1.heap.size := (by omega)); (try have hybw1 : w.heap.size + 2 < w1.heap.size := (by omega)); (try have hycw1 : w.heap.size + 3 < w1.heap.size := (by omega)); (try have hydw1 : w.heap.size + 4 < w1.heap.size := (by omega)); clear hzw1; have K0 := Blk.call (Blk.new w 38 #[.int .i64 0, .int .i64 0]) hbw1; have lK0 := K0.lt; have qK0 := K0.q; have rK0 := K0.fz; have K0' := Lib.hid K0; clear K0; have K0 := K0'.out; clear K0'; have hl5 := hr.isR.len (P := Tryz.prog) ulEl; clear hr) | ((go_at_call 62); (with_reducible refine (HF.out _).mono ?_); rintro e w2 ⟨rfl, hbw2⟩; have K2 := Blk.call (K0.alloc _) hbw2; have lK2 := K2.lt; have qK2 := K2.q; have rK2 := K2.fz; have K2' := Lib.hid K2; clear K2; have K2 := K2'.out; clear K2'))
    refine bodyPost_ret (v := errV (6, 0)) (by simp only [results, Tryz.results58]; go_simp) rfl ?_
    have s1 := hbw1.size
    have s2 := hbw2.size
    simp at s1 s2
    have b1 : Below w.heap.size w w1 := ((Below.refl _ w).alloc (Nat.le_refl _) _).trans (hbw1.mono (by simp))
    have b2 : Below w.heap.size w w2 := (b1.alloc (by omega) _).trans (hbw2.mono (by simp; omega))
    exact ⟨rfl, by ((repeat' (first | (with_reducible exact Below.refl _ _) | (with_reducible assumption) | (with_reducible refine Below.setCell ?_ ?_ _) | (with_reducible refine Below.alloc ?_ ?_ _) | (with_reducible refine Below.drew ?_) | (with_reducible refine below_drewN ?_ _) | (with_reducible refine Below.step (by with_reducible assumption) ?_ ?_))) <;> (first | omega | (simp; done) | (simp; omega)))⟩

def RetPo (xs : List Elem) (w : World) (e : Ending) (w' : World) : Prop := ∃ A k, e = .returned (.tuple #[.slice A xs.length k, errV (0, 0)]) ∧ w'.ownsRow w.heap.size 118 6 (.slice A xs.length k) xs.length (elCells xs) ∧ Below w.heap.size w w'
theorem parts_own {v : Value} {b : List UInt8} {c n : Int} {xs : List Elem} (hL : b.length ≤ 100000) (hp : partsE b c n = .ok xs) (W : World) (h : IsB W v b) : Calls Tryz.prog 96 #[v, .int .i64 c, .int .i64 n] W (RetPo xs W) :=
  (parts_any v b c n W h (by omega)).mono fun e w' hh => by
    rw [hp] at hh
    obtain ⟨hb, ⟨er, he, h⟩ | ⟨xs', o, he, h1, h2⟩⟩ := hh
    · cases he
    · injection he with he; subst he
      obtain ⟨A, k, rfl⟩ := own_slice h2
      exact ⟨A, k, h1, h2, hb⟩
def EaRel (n : Nat) (good : Nat → Bool) (base : Nat) (Tp : TypeId → Prop) (Inv : Nat → World → Prop) (lv : Value) (cells : List Value) (w : World) (ix : Value) (wr : World) : Prop :=
  ∃ i : Nat, ix = .int .i64 (i : Int) ∧ i ≤ n ∧ (∀ j, j < i → good j = true) ∧ Inv i wr ∧ Far base Tp w.heap.size w wr ∧ wr.ownsRow 0 118 6 lv n cells ∧ Blk wr w.heap.size 38 #[.int .i64 0, .int .i64 0]
set_option maxRecDepth 100000 in
set_option maxHeartbeats 8000000 in
theorem each_all (v : Value) (b : List UInt8) (least most : Nat) (k : Nat) (lb : Array Value) (w : World) (xs : List Elem) (good : Nat → Bool) (B base : Nat) (Tp : TypeId → Prop) (Inv : Nat → World → Prop)
    (hv : IsB w v b) (hL : b.length ≤ 100000) (hp : partsE b 0 16 = .ok xs) (hn : least ≤ xs.length ∧ xs.length ≤ most)
    (he : ∀ args W, (callFunc k args).run Tryz.prog W = .ok (.enter k args) W)
    (hTe : ¬ Tp 38) (hTl : ¬ Tp 118)
    (hI : ∀ i W, Inv i W → OldB B v b W)
    (h0 : ∀ W, Below w.heap.size w W → w.heap.size < W.heap.size → Inv 0 W)
    (hK : ∀ i W W', Inv i W → Only w.heap.size W.heap.size W W' → Inv i W')
    (hF : FnEach B k lb (segsE b xs) good base Tp Inv) :
    Calls Tryz.prog 58 #[v, .int .i64 (least : Int), .int .i64 (most : Int), .func (.func k) #[] lb] w (RetEa ((List.range xs.length).all good) b.length base Tp (Inv xs.length) (fun W => ∃ m, m ≤ xs.length ∧ Inv m W) w) := by
  have hall := (partsE_ok hp).2.2.2.2.2
  have HP := Lib.hid (fun W h => parts_own (v := v) hL hp W h)
  have HALL : Hid (∀ (i : Nat) (hi : i < xs.length), 0 ≤ xs[i].start ∧ xs[i].start ≤ xs[i].stop ∧ xs[i].stop ≤ b.length) := fun i hi => by
    obtain ⟨a0, a1, a2, a3, _⟩ := hall xs[i] (List.getElem_mem hi)
    exact ⟨a0, by omega, a3⟩
  have HFN : Hid (∀ (i : Nat) (hi : i < xs.length) W u, Inv i W → OldB B u (seg b xs[i].start xs[i].stop) W → Calls Tryz.prog k (#[.int .i64 (i : Int), u] ++ lb) W (fun e w' => e = .returned (.bool (good i)) ∧ Inv (i + 1) w' ∧ Far base Tp W.heap.size W w')) := fun i hi W u h1 h2 => hF i (by rw [segsE_len]; exact hi) W u h1 (by
    have e : (segsE b xs)[i]'(by rw [segsE_len]; exact hi) = seg b xs[i].start xs[i].stop := by simp [segsE]
    rw [e]; exact h2)
  have HV := Lib.hid hv
  have HB := Lib.hid (polBad)
  have HI := Lib.hid hI
  have H0 := Lib.hid h0
  have HK := Lib.hid hK
  have hxn : xs.length ≤ 100000 := by
    obtain ⟨hb, _⟩ := partsE_ok hp
    have h1 := cnt_flat (ls := segsE b xs) (fun p hp' => by
      unfold segsE at hp'
      obtain ⟨x, hx, rfl⟩ := List.mem_map.1 hp'
      exact ⟨_, (hall x hx).2.2.2.2⟩)
    have h2 := encO_len 0 16 true (segsE b xs).flatten
    rw [segsE_len] at h1
    rw [← hb] at h2
    omega
  obtain ⟨A, c, rfl⟩ := isB_slice hv
  simp only [errV] at HP HB
  obtain ⟨hn1, hn2⟩ := hn
  have hd1 : decide (xs.length < least) = false := decide_eq_false (by omega)
  have hd2 : decide (most < xs.length) = false := decide_eq_false (by omega)
  have hd3 : decide ((xs.length : Int) < (least : Int)) = false := decide_eq_false (by omega)
  have hd4 : decide ((most : Int) < (xs.length : Int)) = false := decide_eq_false (by omega)
  have hd5 : decide ((xs.length : Int) > (most : Int)) = false := decide_eq_false (by omega)
  clear hv hp hall hI h0 hK hF
  obtain ⟨cells, hcl⟩ : ∃ cells, elCells xs = cells := ⟨_, rfl⟩
  have HCL := Lib.hid hcl
  clear hcl
  go_enter Tryz.func58, Tryz.ntmps58
  go_wp2_with (((go_at_call 96); (with_reducible refine (HP.out _ (HV.out.alloc _)).mono ?_); rintro e w1 ⟨A5, k5, rfl, hr, hbw1⟩; obtain ⟨hcw1, hfw1⟩ := bcell hbw1; have hzw1 := hbw1.size; (try simp at hzw1); have hyw1 : w.heap.size < w1.heap.size := (by omega); (try have hyaw1 : w.heap.size + 1 < w1.heap.size := (by omega)); (try have hybw1 : w.heap.size + 2 < w1.heap.size := (by omega)); (try have hycw1 : w.heap.size + 3 < w1.heap.size := (by omega)); (try have hydw1 : w.heap.size + 4 < w1.heap.size := (by omega)); clear hzw1; have K0 := Blk.call (Blk.new w 38 #[.int .i64 0, .int .i64 0]) hbw1; have lK0 := K0.lt; have qK0 := K0.q; have rK0 := K0.fz; have K0' := Lib.hid K0; clear K0; have K0 := K0'.out; clear K0'; rw [HCL.out] at hr; have hl5 := (IsR.of_own hr).len (P := Tryz.prog) ulEl; have HRS := Lib.hid hr; have HB1 := Lib.hid hbw1; clear hr hbw1))
  have HK0 := Lib.hid K0
  have hw1 : w.heap.size < w1.heap.size := lK0
  clear hcw1 hfw1 qK0 rK0 K0
  go_loopw [35] (fun ix wr => EaRel xs.length good base Tp Inv (.slice A5 xs.length k5) cells w ix wr) (fun ix _ => xs.length + 1 - (intOf ix).toNat)
  case atStart =>
    have hb1 : Below w.heap.size w w1 := ((Below.refl _ w).alloc (Nat.le_refl _) _).trans (HB1.out.mono (by simp))
    have hb2 := hb1.alloc (by omega) (.cells #[.int .i64 0, .int .i64 0] 38)
    exact ⟨0, rfl, Nat.zero_le _, fun j h => absurd h (by omega), H0.out _ hb2 (by simp; omega), Far.of_below hb2, ownsRow_below (ownsRow_more HRS.out (Nat.zero_le _)) ((Below.refl _ _).alloc (Nat.le_refl _) _), HK0.out.alloc _⟩
  case round =>
    obtain ⟨i, rfl, hi, hgood, hinv, hfar, hrs, hz⟩ := hrel
    have HGOOD := Lib.hid hgood
    have HINV := Lib.hid hinv
    have HFAR := Lib.hid hfar
    have HRSr := Lib.hid hrs
    have HZ := Lib.hid hz
    have lz := hz.lt
    have sr := hfar.size
    clear hgood hfar hz
    by_cases hlt : i < xs.length
    · obtain ⟨b2, o2, hi2, hS2, hl2, hc2⟩ := rs_at (IsRS.of_own HRSr.out) ulEl szEl .i64 (i := (i : Int)) (by omega) (by omega)
      rw [Int.toNat_natCast, ← HCL.out] at hc2
      obtain ⟨p0, p1, p2, p3, p4, p5⟩ := elc_at hlt rfl hc2
      obtain ⟨a0, a1, a2⟩ := HALL.out i hlt
      obtain ⟨w00, hw00, hw01, hw02⟩ := HI.out _ _ hinv
      obtain ⟨vc, hcut, hvc0⟩ := hw00.cut (P := Tryz.prog) ulB szB .i64 .i64 (lo := xs[i].start) (hi := xs[i].stop) a0 a1 a2
      have hvc : OldB B vc (seg b xs[i].start xs[i].stop) wr := ⟨w00, hvc0, hw01, hw02⟩
      have hcall := HFN.out i hlt (wr.alloc (.cells #[.int .i64 xs[i].cls, .int .i64 xs[i].num, .bool xs[i].con, .int .i64 xs[i].start, .int .i64 xs[i].body, .int .i64 xs[i].stop] 118)) vc (HK.out _ _ _ hinv (Only.of_below ((Below.refl _ _).alloc (Nat.le_refl _) _))) (hvc.below ((Below.refl _ _).alloc (Nat.le_refl _) _))
      have hltI : (i : Int) < xs.length := by omega
      clear hrs hc2 hvc hinv hw00 hw01 hw02 hvc0
      generalize xs[i] = x at *
      obtain ⟨xc, xn, xk, xs', xb, xe⟩ := x
      simp only at p0 p1 p2 p3 p4 p5 a0 a1 a2 hcut hcall
      have KX := Lib.hid (Blk.new wr 118 #[.int .i64 xc, .int .i64 xn, .bool xk, .int .i64 xs', .int .i64 xb, .int .i64 xe])
      cases hg : good i with
      | true =>
        have HGi := Lib.hid hg
        rw [hg] at hcall
        clear hg
        go_wp2_with (go_at_fn k; refine hcall.mono ?_; rintro e w3 ⟨rfl, hinv3, hfar3⟩; have HI3 := Lib.hid hinv3; have HF3 := Lib.hid hfar3; clear hinv3 hfar3)
        go_roundw
        case rel =>
          refine ⟨i + 1, by go_num, by omega, fun j hj => ?_, HI3.out, (HFAR.out.alloc sr _).far HF3.out (by simp; omega), ?_, ?_⟩
          · by_cases hji : j < i
            · exact HGOOD.out j hji
            · obtain rfl : j = i := by omega
              exact HGi.out
          · exact own_farR (ownsRow_below HRSr.out ((Below.refl _ _).alloc (Nat.le_refl _) _)) HF3.out hTl
          · exact (HZ.out.alloc _).farR HF3.out (by simp; omega) (.inr hTe)
        case measure => simp [intOf]; omega
      | false =>
        have HGi := Lib.hid hg
        rw [hg] at hcall
        clear hg
        go_wp2_with (first | ((go_at_call 62); (with_reducible refine (HB.out _ _).mono ?_); rintro e w4 ⟨rfl, hbw4⟩; have Z4' := Lib.hid (Blk.call HZ3.out hbw4); have Z4 := Z4'.out; have qZ4 := Z4.q; have rZ4 := Z4.fz; have lZ4 := Z4.lt) | (go_at_fn k; refine hcall.mono ?_; rintro e w3 ⟨rfl, hinv3, hfar3⟩; have HI3 := Lib.hid hinv3; have HF3 := Lib.hid hfar3; clear hinv3 hfar3; have X3 := KX.out.farR HF3.out (by simp) (.inr hTl); have qX3 := X3.q; have lX3 := X3.lt; have HZ3 := Lib.hid ((HZ.out.alloc (.cells #[.int .i64 xc, .int .i64 xn, .bool xk, .int .i64 xs', .int .i64 xb, .int .i64 xe] 118)).farR HF3.out (by simp; omega) (.inr hTe))))
        refine bodyPost_ret (v := errV (6, xs')) (by simp only [results, Tryz.results58]; go_simp) rfl ?_
        have hf3 := (HFAR.out.alloc sr (.cells #[.int .i64 xc, .int .i64 xn, .bool xk, .int .i64 xs', .int .i64 xb, .int .i64 xe] 118)).far HF3.out (by simp; omega)
        have hf4 := hf3.step hbw4 hf3.size
        have hok : (List.range xs.length).all good = false := by
          rw [Bool.eq_false_iff]
          intro h
          have := List.all_eq_true.1 h i (by simp; omega)
          rw [HGi.out] at this
          cases this
        refine ⟨(hf4.setCell (p := ⟨w.heap.size, 0, none⟩) (Nat.le_refl _) _).setCell (p := ⟨w.heap.size, 1, none⟩) (Nat.le_refl _) _, .inr ⟨hok, 6, xs', by decide, a0, by omega, rfl, i + 1, by omega, ?_⟩⟩
        have h1 : Only w.heap.size w3.heap.size w3 w4 := Only.of_below hbw4
        have h2 := h1.set (p := ⟨w.heap.size, 0, none⟩) rfl (.int .i64 6)
        exact HK.out _ _ _ HI3.out (h2.set (p := ⟨w.heap.size, 1, none⟩) rfl (.int .i64 xs'))
    · have hge : (xs.length : Int) ≤ i := by omega
      have hie : i = xs.length := by omega
      have q0 := HZ.out.q
      have f0 := HZ.out.fz
      have hok : (List.range xs.length).all good = true := by
        rw [List.all_eq_true]
        intro j hj
        simp at hj
        exact HGOOD.out j (by omega)
      have HOK := Lib.hid hok
      clear hrs hlt hi hok hinv
      go_wp2_with fail
      refine bodyPost_ret (v := errV (0, 0)) (by simp only [results, Tryz.results58]; go_simp) rfl ?_
      refine ⟨(HFAR.out.setCell (p := ⟨w.heap.size, 0, none⟩) (Nat.le_refl _) _).setCell (p := ⟨w.heap.size, 1, none⟩) (Nat.le_refl _) _, .inl ⟨HOK.out, rfl, ?_⟩⟩
      have h0 : Only w.heap.size wr.heap.size wr wr := Only.of_below (Below.refl _ _)
      have h1 := (h0.set (p := ⟨w.heap.size, 0, none⟩) rfl (.int .i64 0)).set (p := ⟨w.heap.size, 1, none⟩) rfl (.int .i64 0)
      have := HK.out _ _ _ HINV.out h1
      rw [hie] at this
      exact this

def RetEaN (L : Nat) (w : World) (e : Ending) (w' : World) : Prop := Below w.heap.size w w' ∧ ∃ ec eo : Int, 0 < ec ∧ 0 ≤ eo ∧ eo ≤ L ∧ e = .returned (errV (ec, eo))
theorem each_none (v : Value) (b : List UInt8) (least most : Nat) (k : Nat) (lb : Array Value) (w : World) (hv : IsB w v b) (hL : b.length ≤ 100000) (h : eachL least most b = none) :
    Calls Tryz.prog 58 #[v, .int .i64 (least : Int), .int .i64 (most : Int), .func (.func k) #[] lb] w (RetEaN b.length w) := by
  unfold eachL at h
  cases hp : partsE b 0 16 with
  | error er =>
    obtain ⟨ec, eo⟩ := er
    obtain ⟨h1, h2, h3⟩ := partsE_err hp
    exact (each_err v b least most k lb w ec eo hv hL hp).mono fun e w' ⟨h4, h5⟩ => ⟨h5, ec, eo, h1, h2, h3, h4⟩
  | ok xs =>
    rw [hp] at h
    simp only at h
    have hn : ¬ (least ≤ xs.length ∧ xs.length ≤ most) := fun hh => by rw [if_pos hh] at h; cases h
    exact (each_few v b least most k lb w xs hv hL hp hn).mono fun e w' ⟨h4, h5⟩ => ⟨h5, 6, 0, by decide, by decide, by omega, h4⟩
theorem each_some (v : Value) (b : List UInt8) (least most : Nat) (k : Nat) (lb : Array Value) (w : World) (ls : List (List UInt8)) (good : Nat → Bool) (B base : Nat) (Tp : TypeId → Prop) (Inv : Nat → World → Prop)
    (hv : IsB w v b) (hL : b.length ≤ 100000) (hls : eachL least most b = some ls)
    (he : ∀ args W, (callFunc k args).run Tryz.prog W = .ok (.enter k args) W)
    (hTe : ¬ Tp 38) (hTl : ¬ Tp 118)
    (hI : ∀ i W, Inv i W → OldB B v b W)
    (h0 : ∀ W, Below w.heap.size w W → w.heap.size < W.heap.size → Inv 0 W)
    (hK : ∀ i W W', Inv i W → Only w.heap.size W.heap.size W W' → Inv i W')
    (hF : FnEach B k lb ls good base Tp Inv) :
    Calls Tryz.prog 58 #[v, .int .i64 (least : Int), .int .i64 (most : Int), .func (.func k) #[] lb] w (RetEa ((List.range ls.length).all good) b.length base Tp (Inv ls.length) (fun W => ∃ m, m ≤ ls.length ∧ Inv m W) w) := by
  unfold eachL at hls
  cases hp : partsE b 0 16 with
  | error er => rw [hp] at hls; cases hls
  | ok xs =>
    rw [hp] at hls
    simp only at hls
    split at hls
    · rename_i hn
      injection hls with hls
      have h1 : ls.length = xs.length := by rw [← hls, segsE_len]
      rw [h1]
      subst hls
      exact each_all v b least most k lb w xs good B base Tp Inv hv hL hp hn he hTe hTl hI h0 hK hF
    · cases hls
end Go.Proofs.YtjjkimjdmpeddaaGreatDoor
end

/- Lengths: contents octets are no longer than the text, parts have two octets. No program in sight. -/
section
set_option linter.unusedSimpArgs false
set_option linter.unusedVariables false
namespace Go.Cr
open Go.RowKit
theorem lenOct_le (n : Nat) : (lenOct n).length ≤ 9 := (lenOct_len n).2
theorem seqB_le (ls : List (List UInt8)) : (seqB ls).length ≤ ls.flatten.length + 10 := by
  unfold seqB
  rw [encO_len]
  have := lenOct_le ls.flatten.length
  omega
theorem one_two {p : List UInt8} {x : Elem} (h : oneE p = .ok x) : 2 ≤ p.length := by
  have h1 := (oneE_canon h).1
  have h2 := (lenOct_len (seg p x.body x.stop).length).1
  rw [← h1, encO_len]
  omega
theorem cnt_two {ls : List (List UInt8)} (h : ∀ p ∈ ls, ∃ x, oneE p = .ok x) : 2 * ls.length ≤ ls.flatten.length := by
  induction ls with
  | nil => simp
  | cons p t ih =>
    obtain ⟨x, hx⟩ := h p (by simp)
    have hb := one_two hx
    have := ih fun q hq => h q (by simp [hq])
    simp only [List.length_cons, List.flatten_cons, List.length_append]
    omega
theorem eachL_cnt {least most : Nat} {b : List UInt8} {ls : List (List UInt8)} (h : eachL least most b = some ls) : 2 * ls.length ≤ b.length := by
  obtain ⟨h1, _, _, h4⟩ := eachL_ok h
  have h2 := cnt_two h4
  have h3 := seqB_len ls
  rw [← h1] at h3
  omega
theorem eachL_part {least most : Nat} {b : List UInt8} {ls : List (List UInt8)} (h : eachL least most b = some ls) {p : List UInt8} (hp : p ∈ ls) : p.length ≤ b.length := by
  have h1 := (eachL_ok h).1
  have h2 := seqB_len ls
  have h3 := mem_flat_len hp
  rw [← h1] at h2
  omega
theorem scanL_cnt {rd : List UInt8 → Option Nat} : ∀ (k : Nat) {l : List UInt8} {ks : List (List UInt8)}, scanL rd k l = some ks → ks.length ≤ k := by
  intro k
  induction k with
  | zero =>
    intro l ks h
    simp only [scanL] at h
    split at h
    · cases h; simp
    · cases h
  | succ k ih =>
    intro l ks h
    simp only [scanL] at h
    split at h
    · cases h; simp
    · split at h
      · cases h
      · rename_i n hn
        cases hs : scanL rd k (l.drop n) with
        | none => rw [hs] at h; cases h
        | some ks' =>
          rw [hs] at h
          cases h
          have := ih hs
          simpa using this
theorem kidsT_cnt (d : Nat) (b : List UInt8) : (kidsT d b).length ≤ b.length ∧ (kidsT d b).flatten.length ≤ b.length := by
  unfold kidsT
  split
  · simp
  · rename_i h e
    split
    · simp
    · rename_i hc
      have hk := nextH_ok e
      have hl := cont_len e
      cases hs : scanL (readT d) h.len.toNat (cont b h) with
      | none => simp
      | some ks =>
        have h1 := scanL_cnt _ hs
        have h2 := scanL_flat _ hs
        simp only [Option.getD_some]
        rw [h2]
        omega
theorem kidsA_cnt (b : List UInt8) : (kidsA b).length ≤ b.length ∧ (kidsA b).flatten.length ≤ b.length := by
  unfold kidsA
  split
  · exact kidsT_cnt 59 b
  · simp
end Go.Cr
end
