/- The parts RefY of one proof, one behind the other. -/
import Derived.Test.YtjjkimjdmpeddaaGreatDoorK27
import Derived.Test.YtjjkimjdmpeddaaGreatDoorK30
import Derived.Test.YtjjkimjdmpeddaaGreatDoorK15

/- Walks over the reference's character strings (cretularef11): FromString, ReadString, String, Filled, Directory. -/
section
set_option linter.unusedSimpArgs false
set_option linter.unusedVariables false
namespace Go.Proofs.YtjjkimjdmpeddaaGreatDoor
open Go.RowKit Go.Cr
/-! ### The plain law -/
def numK (p : List UInt8) : Int := match nextH p with
  | .error _ => 0
  | .ok h => h.num
def optS (p : Int × List UInt8) : Option (Int × List UInt8) := (decT p.1 p.2).map fun s => (p.1, s)
theorem numK_enc (c n : Int) (l : List UInt8) (h : 0 ≤ c) (h1 : c ≤ 3) (h2 : 0 ≤ n) (h3 : n < 31) (hl : l.length ≤ 2147483647) : numK (encO c false n l) = n := by
  have e1 := nextH_enc c n false l [] h h1 h2 h3 hl
  rw [List.append_nil] at e1
  unfold numK
  rw [e1]
/-! ### The walks -/
def RetTx (o : Option (Int × List UInt8)) (w : World) (e : Ending) (w' : World) : Prop := ∃ (kk : Int) (ss : ByteArray), e = .returned (.agg #[.int .i64 kk, .string ss]) ∧ .agg #[.int .i64 kk, .string ss] = txV o ∧ Below w.heap.size w w'
set_option maxRecDepth 100000 in
set_option maxHeartbeats 4000000 in
theorem rReadS (c1 c2 : Int) (c3 : Bool) (v4 v5 : Value) (c : List UInt8) (w : World) (h4 : IsB w v4 c) (h5 : v5.oneCell' = true) (hl : c.length ≤ 20000) :
    Calls Tryz.prog 103 #[.agg #[.int .i64 c1, .int .i64 c2, .bool c3, v4, v5]] w (RetTx (optS (c2, c)) w) := by
  obtain ⟨A, k, rfl⟩ := isB_slice h4
  have HV := Lib.hid h4
  have HD : Hid (∀ W, IsB W (.slice A c.length k) c → Calls Tryz.prog 133 #[.int .i64 c2, .slice A c.length k] W (RetDe c2 (decT c2 c) W)) := fun W h => rDecode7 c2 _ c W h hl
  unfold optS
  simp only
  clear h4
  generalize decT c2 c = DO at *
  go_enter Tryz.func103, Tryz.ntmps103
  go_wp2_with (((go_at_call 133); (with_reducible refine (HD.out _ ((HV.out.alloc _).alloc _)).mono ?_); rintro e w1 hre; obtain ⟨kk, ss, ec, rfl, hz, htx, hbw1⟩ := RetDe.uni hre; have HTX := Lib.hid htx; clear hre htx hz; have I0 := Blk.call ((blk_in (w := w.alloc (.cells #[.int .i64 c1, .int .i64 c2, .bool c3, .slice A c.length k, v5] 91)) (g := w.heap.size + 1) (t := 27) (cs := #[.int .i64 0, .string ⟨#[]⟩]) (by simp))) hbw1; have q0 := I0.q; have f0 := I0.fz; have l0 := I0.lt))
  refine bodyPost_ret (v := .agg #[.int .i64 kk, .string ss]) (by simp only [results, Tryz.results103]; go_simp) rfl ?_
  have s1 := hbw1.size
  simp at s1
  have b1 : Below w.heap.size w w1 := (((Below.refl _ w).alloc (Nat.le_refl _) _).alloc (by simp) _).trans (hbw1.mono (by simp; omega))
  exact ⟨kk, ss, rfl, HTX.out, by ((repeat' (first | (with_reducible exact Below.refl _ _) | (with_reducible assumption) | (with_reducible refine Below.setCell ?_ ?_ _) | (with_reducible refine Below.alloc ?_ ?_ _) | (with_reducible refine Below.drew ?_) | (with_reducible refine below_drewN ?_ _) | (with_reducible refine Below.step (by with_reducible assumption) ?_ ?_))) <;> (first | omega | (simp; done) | (simp; omega)))⟩

theorem optS_len {p : Int × List UInt8} {k : Int} {s : List UInt8} (h : optS p = some (k, s)) : s.length ≤ 4 * p.2.length := by
  unfold optS at h
  cases hd : decT p.1 p.2 with
  | none => rw [hd] at h; cases h
  | some t =>
    rw [hd] at h
    simp only [Option.map_some, Option.some.injEq, Prod.mk.injEq] at h
    obtain ⟨_, rfl⟩ := h
    cases hw : widthK p.1 with
    | none => unfold decT at hd; rw [hw] at hd; cases hd
    | some n =>
      have h1 := ((decT_back hw).1 t hd).1
      have h2 := backR_len n p.2 (by have := widthK_small hw; omega)
      rw [h1]
      exact h2
end Go.Proofs.YtjjkimjdmpeddaaGreatDoor
end
