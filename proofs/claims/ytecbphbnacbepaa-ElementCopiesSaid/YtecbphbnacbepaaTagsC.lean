/- The walk over Tags of the reference. -/
import Derived.Test.YtecbphbnacbepaaTagsB
set_option linter.unusedSimpArgs false
set_option linter.unusedVariables false
namespace Go.Proofs.Ytecbphbnacbepaa
open Go.RowKit Go.Cr

theorem join_snoc (ys : List (List UInt8)) (y sep : List UInt8) : Lib.join (ys ++ [y]) sep = if ys = [] then y else Lib.join ys sep ++ (sep ++ y) := by
  cases ys with
  | nil => simp [Lib.join_one]
  | cons x r => rw [List.cons_append, Lib.join_cons, Lib.join_cons, if_neg (by simp)]; simp [Lib.joinTail]
def sB (xs : List Elem) (k : Nat) : ByteArray := ⟨(tagsL (xs.take k)).toArray⟩
theorem sB_zero (xs : List Elem) : sB xs 0 = ⟨#[]⟩ := by unfold sB tagsL; simp [Lib.join_nil]
theorem ba_eq (b : ByteArray) : (⟨b.data.toList.toArray⟩ : ByteArray) = b := by cases b; simp
theorem sB_one (xs : List Elem) (h : 0 < xs.length) : sB xs 1 = wordOf xs[0] := by
  unfold sB tagsL
  rw [List.take_succ_eq_append_getElem h]
  simp only [List.take_zero, List.nil_append, List.map_cons, List.map_nil, Lib.join_one]
theorem sB_succ (xs : List Elem) (k : Nat) (h : k < xs.length) (h0 : 0 < k) : sB xs (k + 1) = (sB xs k ++ ⟨#[32]⟩) ++ wordOf xs[k] := by
  unfold sB tagsL
  rw [List.take_succ_eq_append_getElem h, List.map_append, List.map_cons, List.map_nil, join_snoc, if_neg (by
    intro hh
    rw [List.map_eq_nil_iff, List.take_eq_nil_iff] at hh
    rcases hh with rfl | rfl
    · omega
    · simp at h)]
  apply ByteArray.ext
  simp [ByteArray.data_append]
theorem sB_size (xs : List Elem) (k : Nat) : (sB xs k).size ≤ 3 * xs.length := by
  have := join_len ((xs.take k).map fun x => (wordOf x).data.toList) (by
    intro y hy; simp only [List.mem_map] at hy; obtain ⟨x, _, rfl⟩ := hy
    have := wordOf_size x
    simp only [ByteArray.size, Array.length_toList] at this ⊢; omega)
  have h2 : ((xs.take k).map fun x => (wordOf x).data.toList).length ≤ xs.length := by simp; omega
  have h3 : (sB xs k).size = (tagsL (xs.take k)).length := by simp [sB, ByteArray.size]
  rw [h3]; unfold tagsL; omega
theorem sB_all (xs : List Elem) : sB xs xs.length = ⟨(tagsL xs).toArray⟩ := by unfold sB; rw [List.take_length]
theorem ba_assoc (a b c : ByteArray) : (a ++ b) ++ c = a ++ (b ++ c) := by apply ByteArray.ext; simp [ByteArray.data_append]
theorem ba_nil (a : ByteArray) : (⟨#[]⟩ : ByteArray) ++ a = a := by apply ByteArray.ext; simp [ByteArray.data_append]

def RtRel (xs : List Elem) (w : World) (i s : Value) (wr : World) : Prop :=
  ∃ k : Nat, k ≤ xs.length ∧ i = .int .i64 k ∧ s = .string (sB xs k) ∧ Below w.heap.size w wr

/-- The string ahead of the word of number k. -/
def sA (xs : List Elem) (k : Nat) : ByteArray := if 0 < k then sB xs k ++ ⟨#[32]⟩ else sB xs k
theorem sA_next (xs : List Elem) (k : Nat) (h : k < xs.length) : sB xs (k + 1) = sA xs k ++ wordOf xs[k] := by
  unfold sA
  split
  · next h0 => exact sB_succ xs k h h0
  · next h0 =>
    obtain rfl : k = 0 := by omega
    rw [sB_zero, ba_nil, sB_one xs h]

set_option maxRecDepth 100000 in
set_option maxHeartbeats 2000000 in
theorem rTags_any (v : Value) (xs : List Elem) (w : World) (hv : IsR w v 6 xs.length (elCells xs)) (hn : xs.length ≤ 1000000) :
    Calls Try.prog 13 #[v] w (RetB (.string ⟨(tagsL xs).toArray⟩) w) := by
  have hlen := hv.len ulEl
  have hmx : (xs.length : Int) ≤ 1000000 := by omega
  have HV := Lib.hid hv
  rw [← sB_all]
  clear hv
  go_enter Try.func13, Try.ntmps13
  go_wp2
  go_loopw [4, 3] (fun i s wr => RtRel xs w i s wr) (fun i _ _ => xs.length - (intOf i).toNat)
  case atStart => exact ⟨0, by omega, rfl, by rw [sB_zero], Below.refl _ _⟩
  case round =>
    obtain ⟨k, hk, rfl, rfl, hbel⟩ := hrel
    have hsz := sB_size xs k
    by_cases hlt : (k : Int) < xs.length
    · obtain ⟨b1, o1, hi1, hb1, hc1⟩ := (HV.out.below hbel).at_ (P := Try.prog) ulEl szEl .i64 (i := k) (by omega) hlt
      have hkl : k < xs.length := by omega
      have hx := elCells_at xs k hkl
      have hsn := sA_next xs k hkl
      have hsA : sA xs k = if 0 < k then sB xs k ++ ⟨#[32]⟩ else sB xs k := rfl
      have HSN := Lib.hid hsn
      have HSA := Lib.hid hsA
      clear hsn hsA
      generalize hxk : xs[k] = x at *
      have hw0 : wordOf x = if idOk x then dg (idI x / 16) ++ dg (idI x % 16) else ⟨#[63, 63]⟩ := rfl
      have HW := Lib.hid hw0
      clear hw0 hxk
      obtain ⟨xc, xn, xk, xs', xb, xe⟩ := x
      have e0 := hx 0 (by omega); have e1 := hx 1 (by omega); have e2 := hx 2 (by omega); have e3 := hx 3 (by omega); have e4 := hx 4 (by omega); have e5 := hx 5 (by omega)
      simp only [Elem.cells, List.getElem?_cons_zero, List.getElem?_cons_succ] at e0 e1 e2 e3 e4 e5
      simp only [Int.toNat_natCast] at hc1
      have p0 := hc1 0 _ e0; have p1 := hc1 1 _ e1; have p2 := hc1 2 _ e2; have p3 := hc1 3 _ e3; have p4 := hc1 4 _ e4; have p5 := hc1 5 _ e5
      rw [Nat.add_zero] at p0
      clear e0 e1 e2 e3 e4 e5 hc1 hx
      generalize wordOf ⟨xc, xn, xk, xs', xb, xe⟩ = W at *
      generalize hS1 : sB xs (k + 1) = S1 at *
      have HS1 := Lib.hid hS1
      clear hS1
      generalize sB xs k = S0 at *
      generalize sA xs k = SA at *
      have hszi : (S0.size : Int) ≤ 3000000 := by omega
      clear hsz
      by_cases hid : 0 ≤ xc ∧ xc ≤ 3 ∧ 0 ≤ xn ∧ xn < 31
      · have hW : W = dg (idI ⟨xc, xn, xk, xs', xb, xe⟩ / 16) ++ dg (idI ⟨xc, xn, xk, xs', xb, xe⟩ % 16) := by rw [HW.out]; exact if_pos hid
        have HI0 : Hid (∀ W, Calls Try.prog 34 #[.int .i64 xc, .bool xk, .int .i64 xn] W fun e w' => e = .returned (.tuple #[.int .u8 (idI ⟨xc, xn, xk, xs', xb, xe⟩), .int .i64 0]) ∧ W = w') := fun W => rIdent_good xc xn xk W hid.1 hid.2.1 hid.2.2.1 hid.2.2.2
        have hr0 : 0 ≤ idI ⟨xc, xn, xk, xs', xb, xe⟩ := by unfold idI; simp only; split <;> omega
        have hr1 : idI ⟨xc, xn, xk, xs', xb, xe⟩ < 256 := by unfold idI; simp only; split <;> omega
        clear HW
        generalize idI ⟨xc, xn, xk, xs', xb, xe⟩ = q at *
        have hs1 := fun Wo => slice_dg (q / 16) Wo (by omega) (by omega)
        have hs2 := fun Wo => slice_dg (q % 16) Wo (by omega) (by omega)
        have hz1 := dg_size (q / 16)
        have hz2 := dg_size (q % 16)
        generalize dg (q / 16) = s1 at *
        generalize dg (q % 16) = s2 at *
        have HW := Lib.hid hW
        clear hW hid
        have hwr1 : IntKind.u8.wrap (q / 16 + 1) = q / 16 + 1 := wraps_u8 _ (by omega) (by omega)
        have hwr2 : IntKind.u8.wrap (q % 16 + 1) = q % 16 + 1 := wraps_u8 _ (by omega) (by omega)
        by_cases hk0 : 0 < k
        · have hSA : SA = S0 ++ ⟨#[32]⟩ := by rw [HSA.out, if_pos hk0]
          have HB := Lib.hid hSA
          clear hSA HSA
          go_wp2
          go_quiet (first | (go_at_call 34; refine Calls.quiet_of_same ((HI0.out _).mono fun e w1 hh => ⟨hh.1, hh.2.symm⟩)))
          go_wp2
          go_quiet (fail)
          go_wp2
          go_roundw
          case rel => exact ⟨k + 1, by omega, by go_num, by rw [HS1.out, HSN.out, HB.out, HW.out, ← ba_assoc], by ((repeat' (first | (with_reducible exact Below.refl _ _) | (with_reducible assumption) | (with_reducible refine Below.setCell ?_ ?_ _) | (with_reducible refine Below.alloc ?_ ?_ _) | (with_reducible refine Below.drew ?_) | (with_reducible refine below_drewN ?_ _) | (with_reducible refine Below.step (by with_reducible assumption) ?_ ?_))) <;> (first | omega | (simp; done) | (simp; omega)))⟩
          case measure => simp [intOf]; omega
        · have hSA : SA = S0 := by rw [HSA.out, if_neg hk0]
          have HB := Lib.hid hSA
          clear hSA HSA
          go_wp2
          go_quiet (first | (go_at_call 34; refine Calls.quiet_of_same ((HI0.out _).mono fun e w1 hh => ⟨hh.1, hh.2.symm⟩)))
          go_wp2
          go_quiet (fail)
          go_wp2
          go_roundw
          case rel => exact ⟨k + 1, by omega, by go_num, by rw [HS1.out, HSN.out, HB.out, HW.out, ← ba_assoc], by ((repeat' (first | (with_reducible exact Below.refl _ _) | (with_reducible assumption) | (with_reducible refine Below.setCell ?_ ?_ _) | (with_reducible refine Below.alloc ?_ ?_ _) | (with_reducible refine Below.drew ?_) | (with_reducible refine below_drewN ?_ _) | (with_reducible refine Below.step (by with_reducible assumption) ?_ ?_))) <;> (first | omega | (simp; done) | (simp; omega)))⟩
          case measure => simp [intOf]; omega
      · have hid' : xc < 0 ∨ 3 < xc ∨ xn < 0 ∨ 31 ≤ xn := by omega
        have HI0 := Lib.hid (rIdent_bad xc xn xk · hid')
        have hW : W = ⟨#[63, 63]⟩ := by rw [HW.out]; exact if_neg hid
        clear HW
        have HW := Lib.hid hW
        clear hW hid hid'
        by_cases hk0 : 0 < k
        · have hSA : SA = S0 ++ ⟨#[32]⟩ := by rw [HSA.out, if_pos hk0]
          have HB := Lib.hid hSA
          clear hSA HSA
          go_wp2
          go_quiet (first | (go_at_call 34; refine Calls.quiet_of_same ((HI0.out _).mono fun e w1 hh => ⟨hh.1, hh.2.symm⟩)))
          go_wp2
          go_roundw
          case rel => exact ⟨k + 1, by omega, by go_num, by rw [HS1.out, HSN.out, HB.out, HW.out], by ((repeat' (first | (with_reducible exact Below.refl _ _) | (with_reducible assumption) | (with_reducible refine Below.setCell ?_ ?_ _) | (with_reducible refine Below.alloc ?_ ?_ _) | (with_reducible refine Below.drew ?_) | (with_reducible refine below_drewN ?_ _) | (with_reducible refine Below.step (by with_reducible assumption) ?_ ?_))) <;> (first | omega | (simp; done) | (simp; omega)))⟩
          case measure => simp [intOf]; omega
        · have hSA : SA = S0 := by rw [HSA.out, if_neg hk0]
          have HB := Lib.hid hSA
          clear hSA HSA
          go_wp2
          go_quiet (first | (go_at_call 34; refine Calls.quiet_of_same ((HI0.out _).mono fun e w1 hh => ⟨hh.1, hh.2.symm⟩)))
          go_wp2
          go_roundw
          case rel => exact ⟨k + 1, by omega, by go_num, by rw [HS1.out, HSN.out, HB.out, HW.out], by ((repeat' (first | (with_reducible exact Below.refl _ _) | (with_reducible assumption) | (with_reducible refine Below.setCell ?_ ?_ _) | (with_reducible refine Below.alloc ?_ ?_ _) | (with_reducible refine Below.drew ?_) | (with_reducible refine below_drewN ?_ _) | (with_reducible refine Below.step (by with_reducible assumption) ?_ ?_))) <;> (first | omega | (simp; done) | (simp; omega)))⟩
          case measure => simp [intOf]; omega
    · obtain rfl : k = xs.length := by omega
      go_wp2
      (refine bodyPost_retB (v := .string (sB xs xs.length)) (by (simp only [results, Try.results13]; try go_simp)) rfl rfl ?_; ((repeat' (first | (with_reducible exact Below.refl _ _) | (with_reducible assumption) | (with_reducible refine Below.setCell ?_ ?_ _) | (with_reducible refine Below.alloc ?_ ?_ _) | (with_reducible refine Below.drew ?_) | (with_reducible refine below_drewN ?_ _) | (with_reducible refine Below.step (by with_reducible assumption) ?_ ?_))) <;> (first | omega | (simp; done) | (simp; omega))))
end Go.Proofs.Ytecbphbnacbepaa
