/- The parts Chunk of one proof, one behind the other. -/
import Derived.Test.YtlmnmgokfnnbbaaGreatDoorQ05
import Derived.Test.YtlmnmgokfnnbbaaGreatDoorProg
import Derived.RangeFuncNested
import Derived.RangeFuncBound
import Derived.RangeFuncCalls
import Derived.RangeFuncLeaves
import Derived.RangeFuncFrom
import Derived.Shelf.Abstract
import Derived.Shelf.RegionOpen
import Derived.WalkKit
import Derived.OwnWalkIn
import Derived.TacticsInMore
import Derived.LoopNIn
import Derived.LoopIn

/- slices.Chunk of bytes: the closure's contract. -/
section
set_option linter.unusedSimpArgs false
set_option linter.unusedVariables false
namespace Go.Proofs.YtlmnmgokfnnbbaaGreatDoor
open Go.RowKit Go.Shelf Go.Cr
attribute [local go_sem] Oper.semAt_some
def UnitT (w0 : World) (d : Nat) : Type := { x : Value × List UInt8 // IsB w0 x.1 x.2 ∧ x.2.length = d }
def UnitT.bytes {w0 : World} {d : Nat} (x : UnitT w0 d) : List UInt8 := x.1.2
def flatU {w0 : World} {d : Nat} (xs : List (UnitT w0 d)) : List UInt8 := xs.flatMap UnitT.bytes
theorem flatU_snoc {w0 : World} {d : Nat} (xs : List (UnitT w0 d)) (x : UnitT w0 d) : flatU (xs ++ [x]) = flatU xs ++ x.bytes := by simp [flatU]
def KpC (n₀ Bs Bn : Nat) (A B : World) : Prop := Below n₀ A B ∧ B.heap[Bs]? = A.heap[Bs]? ∧ B.heap[Bn]? = A.heap[Bn]?
theorem KpC.trans {n₀ Bs Bn : Nat} {A B C : World} (h : KpC n₀ Bs Bn A B) (k : KpC n₀ Bs Bn B C) : KpC n₀ Bs Bn A C := ⟨h.1.trans k.1, k.2.1.trans h.2.1, k.2.2.trans h.2.2⟩
theorem KpC.refl (n₀ Bs Bn : Nat) (A : World) : KpC n₀ Bs Bn A A := ⟨Below.refl _ _, rfl, rfl⟩

def ChRel {w0 : World} {d : Nat} (l : List UInt8) (n₀ Bs Bn : Nat) (J : List (UnitT w0 d) → World → Prop) (W : World) (i : Value) (wr : World) : Prop :=
  ∃ (pre : List (UnitT w0 d)) (m : Nat), i = .int .i64 (m : Int) ∧ m = pre.length * d ∧ flatU pre = l.take m ∧ m ≤ l.length ∧ J pre wr ∧ KpC n₀ Bs Bn W wr

set_option maxRecDepth 100000 in
set_option maxHeartbeats 4000000 in
theorem chunk1_in (n : Nat) (hn : 1 ≤ n) (w0 : World) (d : Nat) (hd : 0 < d) (hd4 : d ≤ 4) (sv : Value) (l : List UInt8) (hl : l.length ≤ 1000000) (hm : l.length % d = 0) (hsv : IsB w0 sv l) (ln Bs Bn n₀ : Nat) (J Jx : List (UnitT w0 d) → World → Prop)
    (W : World) (hJ : AbidesFrom W.heap.size J)
    (hY : ∀ pre x W1, J pre W1 → pre.length < l.length → YieldAt Fence.wide (n - 1) Tryz.prog ln #[x.1.1] W1 fun e W' =>
      (e = .returned (.bool true) ∧ J (pre ++ [x]) W' ∧ KpC n₀ Bs Bn W1 W') ∨ (e = .returned (.bool false) ∧ Jx (pre ++ [x]) W'))
    (hBs : Blk W Bs 33 #[sv]) (hBn : Blk W Bn 3 #[.int .i64 (d : Int)]) (h0 : J [] W) :
    CallsIn Fence.wide n Tryz.prog 190 #[.func (.yield ln) #[] #[], .pointer (some ⟨Bs, 0, none⟩), .pointer (some ⟨Bn, 0, none⟩)] W fun e W' => (∃ v, e = .returned v) ∧
      ((∃ ys, flatU ys = l ∧ J ys W') ∨ (∃ pre, flatU pre <+: l ∧ Jx pre W')) := by
  have HV := Lib.hid hsv
  obtain ⟨A0, c0, rfl⟩ := isB_slice hsv
  have hlen := HV.out.len (P := Tryz.prog) ulB
  have HBs := Lib.hid hBs
  have HBn := Lib.hid hBn
  have HM := Lib.hid hm
  have hlI : (l.length : Int) ≤ 1000000 := by omega
  clear hsv hBs hBn hm
  refine callsIn_of_wp Tryz.func190 rfl trivial ?_ rfl
  simp only [Tryz.ntmps190, List.size_toArray, List.length_cons, List.length_nil, Nat.reduceAdd, Nat.reduceSub, Array.replicate_succ, Array.replicate_zero, List.push_toArray, List.append_toArray, List.nil_append, List.cons_append]
  gi_wp2
  gi_loopw [4] (fun i wr => ChRel l n₀ Bs Bn J W i wr) (fun i _ => l.length + 1 - (intOf i).toNat)
  case atStart => exact ⟨[], 0, rfl, by simp, by simp [flatU], Nat.zero_le _, h0, KpC.refl _ _ _ _⟩
  case round =>
    obtain ⟨pre, m, rfl, hm0, hfl, hle, hJs, hkp⟩ := hrel
    have KBs : Blk wr Bs 33 _ := hkp.2.1.trans HBs.out
    have KBn : Blk wr Bn 3 _ := hkp.2.2.trans HBn.out
    have qs := KBs.q
    have qn := KBn.q
    have HFL := Lib.hid hfl
    have HJS := Lib.hid hJs
    have HKP := Lib.hid hkp
    have HM0 := Lib.hid hm0
    clear hfl hJs hkp hm0 h0
    by_cases hlt : m < l.length
    · have hmd : m + d ≤ l.length := by
        have h1 : d ∣ l.length := Nat.dvd_of_mod_eq_zero HM.out
        have h2 : d ∣ m := by rw [HM0.out]; exact Nat.dvd_mul_left _ _
        obtain ⟨a, ha⟩ := h1
        obtain ⟨b, hb⟩ := h2
        have h3 : b < a := by
          rw [ha, hb] at hlt
          exact Nat.lt_of_mul_lt_mul_left hlt
        have h4 : d * (b + 1) ≤ d * a := Nat.mul_le_mul_left _ h3
        rw [Nat.mul_succ] at h4
        omega
      obtain ⟨v1, hr1, hv1⟩ := HV.out.cutLo (P := Tryz.prog) ulB szB .i64 (lo := (m : Int)) (by omega) (by omega)
      have hln1 := hv1.len (P := Tryz.prog) ulB
      rw [List.length_drop, Int.toNat_natCast] at hln1
      obtain ⟨v2, hr2, hv2⟩ := HV.out.cut3 (P := Tryz.prog) ulB szB .i64 .i64 .i64 (lo := (m : Int)) (hi := (m : Int) + (d : Int)) (by omega) (by omega) (by omega)
      rw [show ((m : Int) + (d : Int) - (m : Int)).toNat = d by omega, Int.toNat_natCast] at hv2
      have hv2l : ((l.drop m).take d).length = d := by rw [List.length_take, List.length_drop]; omega
      have hcast : ((l.length - m : Nat) : Int) = (l.length : Int) - (m : Int) := by omega
      rw [hcast] at hln1
      have hdI : (d : Int) ≤ (l.length : Int) - (m : Int) := by omega
      clear hv1 hcast
      obtain ⟨x, hx⟩ : ∃ x : UnitT w0 d, x = ⟨(v2, (l.drop m).take d), hv2, hv2l⟩ := ⟨_, rfl⟩
      have hxv : x.1.1 = v2 := by rw [hx]
      have hxb : x.bytes = (l.drop m).take d := by rw [hx]; rfl
      have HXB := Lib.hid hxb
      clear hx hv2 hv2l hxb
      gi_wp2
      gi_quiet (fail)
      have hJq : J pre (wr.drewN nq) := hJ pre wr _ none HJS.out ⟨rfl, rfl, rfl, Nat.le_refl _, fun _ _ _ => rfl⟩ (fun r e => by cases e)
      have hpl : pre.length < l.length := by
        have h1 := HM0.out
        have h2 : pre.length * 1 ≤ pre.length * d := Nat.mul_le_mul_left _ hd
        omega
      obtain ⟨fn', tmps, assign, body, hy, hR⟩ := hY pre x (wr.drewN nq) hJq hpl
      rw [hxv] at hy
      have HX := Lib.hid hxv
      have hkq : KpC n₀ Bs Bn W (wr.drewN nq) := HKP.out.trans ⟨below_drewN (Below.refl _ _) _, rfl, rfl⟩
      have HKQ := Lib.hid hkq
      clear hJq hpl hxv hkq hY
      gi_wp2
      refine hR.mono ?_
      rintro e W3 (⟨rfl, hJ3, hk3⟩ | ⟨rfl, hJx3⟩)
      · have hkp3 := HKQ.out.trans hk3
        have K3 : Blk W3 Bn 3 _ := hkp3.2.2.trans HBn.out
        have q3 := K3.q
        have HK3 := Lib.hid hkp3
        have HJ3 := Lib.hid hJ3
        clear hkp3 hJ3 hk3 qs qn KBs KBn
        gi_wp2
        go_roundw
        case rel =>
          refine ⟨pre ++ [x], m + d, by (first | go_num | (congr 1; omega)), by rw [HM0.out]; simp [Nat.succ_mul], ?_, hmd, HJ3.out, HK3.out⟩
          rw [flatU_snoc, HFL.out, HXB.out, List.take_add]
        case measure => (simp [intOf]; try omega)
      · gi_wp2
        refine bodyPost_ret (results_none rfl _ _ _) rfl ?_
        refine ⟨⟨_, rfl⟩, .inr ⟨pre ++ [x], ?_, hJx3⟩⟩
        rw [flatU_snoc, HFL.out, HXB.out, ← List.take_add]
        exact List.take_prefix _ _
    · have hme : m = l.length := by omega
      gi_wp2
      go_end0
      exact ⟨⟨_, rfl⟩, .inl ⟨pre, by rw [HFL.out, hme, List.take_length], HJS.out⟩⟩

theorem chunk_stops (n : Nat) (hn : 1 ≤ n) (w0 : World) (d : Nat) (hd : 0 < d) (hd4 : d ≤ 4) (sv : Value) (l : List UInt8) (hl : l.length ≤ 1000000) (hm : l.length % d = 0) (hsv : IsB w0 sv l) (Bs Bn n₀ : Nat) (w : World)
    (hBs : Blk w Bs 33 #[sv]) (hBn : Blk w Bn 3 #[.int .i64 (d : Int)]) :
    SeqStopsK Fence.wide n Tryz.prog 190 #[.pointer (some ⟨Bs, 0, none⟩), .pointer (some ⟨Bn, 0, none⟩)] (fun x : UnitT w0 d => #[x.1.1]) (KpC n₀ Bs Bn) (fun xs => flatU xs = l) (fun pre => flatU pre <+: l) l.length w :=
  fun ln J Jx W hW hJ hJx hY h0 => chunk1_in n hn w0 d hd hd4 sv l hl hm hsv ln Bs Bn n₀ J Jx W hJ hY (hBs.call hW) (hBn.call hW) h0

def RetCh (d : Nat) (sv : Value) (w : World) (e : Ending) (w' : World) : Prop := e = .returned (.func (.func 190) #[] #[.pointer (some ⟨w.heap.size, 0, none⟩), .pointer (some ⟨w.heap.size + 1, 0, none⟩)]) ∧ w' = (w.alloc (.cells #[sv] 33)).alloc (.cells #[.int .i64 (d : Int)] 3)
set_option maxRecDepth 100000 in
set_option maxHeartbeats 4000000 in
theorem chunk_any (d : Nat) (hd : 0 < d) (A : Option Addr) (ln c : Nat) (w : World) : Calls Tryz.prog 145 #[.slice A ln c, .int .i64 (d : Int)] w (RetCh d (.slice A ln c) w) := by
  have hdI : (1 : Int) ≤ d := by omega
  go_enter Tryz.func145, Tryz.ntmps145
  go_wp2_with fail
  go_ret
  exact ⟨rfl, rfl⟩
end Go.Proofs.YtlmnmgokfnnbbaaGreatDoor
end
