/- The parts DecT of one proof, one behind the other. -/
import Derived.Test.YtlmnmgokfnnbbaaGreatDoorQ21
import Derived.Test.YtlmnmgokfnnbbaaGreatDoorQ09

/- Walk over charset.Decode. -/
section
set_option linter.unusedSimpArgs false
set_option linter.unusedVariables false
namespace Go.Proofs.YtlmnmgokfnnbbaaGreatDoor
open Go.RowKit Go.Cr
def RetDe (k : Int) (o : Option (List UInt8)) (w : World) (e : Ending) (w' : World) : Prop :=
  Below w.heap.size w w' ∧ ((o = none ∧ ∃ ec : Int, ec ≠ 0 ∧ e = .returned (.tuple #[.agg #[.int .i64 0, .string ⟨#[]⟩], .int .i64 ec])) ∨ ∃ s, o = some s ∧ e = .returned (.tuple #[.agg #[.int .i64 k, .string (bStr s)], .int .i64 0]))

set_option maxRecDepth 100000 in
set_option maxHeartbeats 4000000 in
theorem decT_no (k : Int) (v : Value) (c : List UInt8) (w : World) (hk : widthK k = none) (hv : IsB w v c) : Calls Tryz.prog 110 #[.int .i64 k, v] w (RetDe k none w) := by
  have HR : Hid (∀ W, Calls Tryz.prog 144 #[] W (RetFn k W)) := formsNo k hk
  have HK : Hid ((widthK k).isSome = false) := by rw [hk]; rfl
  obtain ⟨A, cp, rfl⟩ := isB_slice hv
  clear hk hv
  go_enter Tryz.func110, Tryz.ntmps110
  go_wp2_with (((go_at_call 144); (with_reducible refine (HR.out _).mono ?_); rintro e w1 ⟨gm, rfl, hgm, hbw1, hF⟩; have sz := hbw1.size; simp at sz; have y0 : w.heap.size < w1.heap.size := (by omega); have y1 : w.heap.size + 1 < w1.heap.size := (by omega); have HSZ := Lib.hid sz; clear sz; have k1 := hF.look; rw [HK.out] at k1; have I0 := Blk.call ((Blk.new w 97 #[.int .i64 0, .string ⟨#[]⟩]).alloc _) hbw1; have I1 := Blk.call (Blk.new (w.alloc (.cells #[.int .i64 0, .string ⟨#[]⟩] 97)) 34 #[.int .i64 0]) hbw1; have q0 := I0.q; have f0 := I0.fz; have q1 := I1.q; have f1 := I1.fz; simp at q1 f1))
  refine bodyPost_ret (v := .tuple #[.agg #[.int .i64 0, .string ⟨#[]⟩], .int .i64 3]) (by simp only [results, Tryz.results110]; go_simp) rfl ?_
  have b1 : Below w.heap.size w w1 := (((Below.refl _ w).alloc (Nat.le_refl _) _).alloc (by simp) _).trans (hbw1.mono (by simp; omega))
  exact ⟨by ((repeat' (first | (with_reducible exact Below.refl _ _) | (with_reducible assumption) | (with_reducible refine Below.setCell ?_ ?_ _) | (with_reducible refine Below.alloc ?_ ?_ _) | (with_reducible refine Below.drew ?_) | (with_reducible refine below_drewN ?_ _) | (with_reducible refine Below.step (by with_reducible assumption) ?_ ?_))) <;> (first | omega | (simp; done) | (simp; omega))), .inl ⟨rfl, 3, by decide, rfl⟩⟩

set_option maxRecDepth 100000 in
set_option maxHeartbeats 4000000 in
theorem decT_bad (k : Int) (n : Nat) (v : Value) (c : List UInt8) (w : World) (hk : widthK k = some n) (hK : KindOk k) (hv : IsB w v c) (hn : 1 < n) (hm : c.length % n ≠ 0) : Calls Tryz.prog 110 #[.int .i64 k, v] w (RetDe k none w) := by
  have HR : Hid (∀ W, Calls Tryz.prog 144 #[] W (RetFy k n W)) := formsYes k n hk hK
  have HK : Hid ((widthK k).isSome = true) := by rw [hk]; rfl
  have hlen := hv.len (P := Tryz.prog) ulB
  have hn4 := widthK_small hk
  have hln := hv.maxl
  have hnI : (1 : Int) < n := by omega
  have hnI2 : (n : Int) ≤ 4 := by omega
  have hmod : (((c.length : Int) % (n : Int)) == 0) = false := beq_eq_false_iff_ne.2 (fun e => hm (by omega))
  have hmod2 : (((c.length : Int) % (n : Int)) != 0) = true := by simp [bne, hmod]
  obtain ⟨A, cp, rfl⟩ := isB_slice hv
  clear hk hv hn hm hn4
  go_enter Tryz.func110, Tryz.ntmps110
  go_wp2_with (((go_at_call 144); (with_reducible refine (HR.out _).mono ?_); rintro e w1 ⟨gm, g, lb, rfl, hgm, hbw1, hF, hA⟩; have sz := hbw1.size; simp at sz; have y0 : w.heap.size < w1.heap.size := (by omega); have y1 : w.heap.size + 1 < w1.heap.size := (by omega); have HSZ := Lib.hid sz; clear sz; have HA := Lib.hid hA; clear hA; have k1 := hF.look; rw [HK.out] at k1; have I0 := Blk.call ((Blk.new w 97 #[.int .i64 0, .string ⟨#[]⟩]).alloc _) hbw1; have I1 := Blk.call (Blk.new (w.alloc (.cells #[.int .i64 0, .string ⟨#[]⟩] 97)) 34 #[.int .i64 0]) hbw1; have q0 := I0.q; have f0 := I0.fz; have q1 := I1.q; have f1 := I1.fz; simp at q1 f1; have HI0 := Lib.hid I0; have HI1 := Lib.hid I1; clear I0 I1))
  refine bodyPost_ret (v := .tuple #[.agg #[.int .i64 0, .string ⟨#[]⟩], .int .i64 6]) (by simp only [results, Tryz.results110]; go_simp) rfl ?_
  have b1 : Below w.heap.size w w1 := (((Below.refl _ w).alloc (Nat.le_refl _) _).alloc (by simp) _).trans (hbw1.mono (by simp; omega))
  exact ⟨by ((repeat' (first | (with_reducible exact Below.refl _ _) | (with_reducible assumption) | (with_reducible refine Below.setCell ?_ ?_ _) | (with_reducible refine Below.alloc ?_ ?_ _) | (with_reducible refine Below.drew ?_) | (with_reducible refine below_drewN ?_ _) | (with_reducible refine Below.step (by with_reducible assumption) ?_ ?_))) <;> (first | omega | (simp; done) | (simp; omega))), .inl ⟨rfl, 6, by decide, rfl⟩⟩

set_option maxRecDepth 100000 in
set_option maxHeartbeats 4000000 in
theorem decT_zero (k : Int) (v : Value) (c : List UInt8) (w : World) (hk : widthK k = some 0) (hK : KindOk k) (hG : Glo w) (hv : IsB w v c) (hc : c.length ≤ 1000000) : Calls Tryz.prog 110 #[.int .i64 k, v] w (RetDe k (decT k c) w) := by
  have HR : Hid (∀ W, Calls Tryz.prog 144 #[] W (RetFy k 0 W)) := formsYes k 0 hk hK
  have HK : Hid ((widthK k).isSome = true) := by rw [hk]; rfl
  have HVA : Hid (∀ W, Glo W → Calls Tryz.prog 139 #[.agg #[.int .i64 k, .string (bStr c)]] W (RetB (.bool (validT k c)) W)) := fun W h => by have := valid_any k (bStr c) W (fun _ => hK) h (by show c.toArray.size ≤ _; simp; omega); rw [bStr_list] at this; exact this
  have HDE : Hid (decT k c = if validT k c = true then some c else none) := by unfold decT; rw [hk]; rfl
  have HG := Lib.hid hG
  have HV0 := Lib.hid hv
  obtain ⟨A, cp, rfl⟩ := isB_slice hv
  obtain ⟨DO, hDO⟩ : ∃ DO, decT k c = DO := ⟨_, rfl⟩
  rw [hDO]
  have HDO := Lib.hid (hDO.symm.trans HDE.out)
  clear hk hv hG hc hDO HDE hK
  generalize validT k c = VB at *
  cases VB
  case false =>
    go_enter Tryz.func110, Tryz.ntmps110
    go_wp2_with (first | ((go_at_call 144); (with_reducible refine (HR.out _).mono ?_); rintro e w1 ⟨gm, g, lb, rfl, hgm, hbw1, hF, hA⟩; have sz := hbw1.size; simp at sz; have y0 : w.heap.size < w1.heap.size := (by omega); have y1 : w.heap.size + 1 < w1.heap.size := (by omega); have HSZ := Lib.hid sz; clear sz; have HA := Lib.hid hA; clear hA; have k1 := hF.look; rw [HK.out] at k1; have I0 := Blk.call ((Blk.new w 97 #[.int .i64 0, .string ⟨#[]⟩]).alloc _) hbw1; have I1 := Blk.call (Blk.new (w.alloc (.cells #[.int .i64 0, .string ⟨#[]⟩] 97)) 34 #[.int .i64 0]) hbw1; have q0 := I0.q; have f0 := I0.fz; have q1 := I1.q; have f1 := I1.fz; simp at q1 f1; have HI0 := Lib.hid I0; have HI1 := Lib.hid I1; clear I0 I1; have k3 := isB_bstr ((((HV0.out.alloc _).alloc _).below hbw1).alloc (.cells #[.func (.func g) #[] lb, .int .i64 0] 169))) | ((go_at_call 139); (with_reducible refine (HVA.out _ (((((HG.out.alloc _).alloc _).below hbw1).alloc _).alloc _)).mono ?_); rintro e w2 ⟨rfl, hbw2⟩; have J0 := Blk.call ((HI0.out.alloc _).alloc _) hbw2; have J1 := Blk.call ((HI1.out.alloc _).alloc _) hbw2; have J2 := Blk.call (Blk.new (w1.alloc (.cells #[.func (.func g) #[] lb, .int .i64 0] 169)) 97 #[.int .i64 k, .string (bStr c)]) hbw2; have p0 := J0.q; have g0 := J0.fz; have p1 := J1.q; have g1 := J1.fz; have p2 := J2.q; simp at p1 g1 p2; have sz2 := hbw2.size; simp at sz2; have z0 : w.heap.size < w2.heap.size := (by omega); have z1 : w.heap.size + 1 < w2.heap.size := (by omega); clear sz2))
    refine bodyPost_ret (v := .tuple #[.agg #[.int .i64 0, .string ⟨#[]⟩], .int .i64 6]) (by simp only [results, Tryz.results110]; go_simp) rfl ?_
    have b1 : Below w.heap.size w w1 := (((Below.refl _ w).alloc (Nat.le_refl _) _).alloc (by simp) _).trans (hbw1.mono (by simp; omega))
    have b2 : Below w.heap.size w w2 := ((b1.alloc (by omega) _).alloc (by simp; omega) _).trans (hbw2.mono (by simp; omega))
    exact ⟨by ((repeat' (first | (with_reducible exact Below.refl _ _) | (with_reducible assumption) | (with_reducible refine Below.setCell ?_ ?_ _) | (with_reducible refine Below.alloc ?_ ?_ _) | (with_reducible refine Below.drew ?_) | (with_reducible refine below_drewN ?_ _) | (with_reducible refine Below.step (by with_reducible assumption) ?_ ?_))) <;> (first | omega | (simp; done) | (simp; omega))), .inl ⟨by rw [HDO.out]; rfl, 6, by decide, rfl⟩⟩
  case true =>
    go_enter Tryz.func110, Tryz.ntmps110
    go_wp2_with (first | ((go_at_call 144); (with_reducible refine (HR.out _).mono ?_); rintro e w1 ⟨gm, g, lb, rfl, hgm, hbw1, hF, hA⟩; have sz := hbw1.size; simp at sz; have y0 : w.heap.size < w1.heap.size := (by omega); have y1 : w.heap.size + 1 < w1.heap.size := (by omega); have HSZ := Lib.hid sz; clear sz; have HA := Lib.hid hA; clear hA; have k1 := hF.look; rw [HK.out] at k1; have I0 := Blk.call ((Blk.new w 97 #[.int .i64 0, .string ⟨#[]⟩]).alloc _) hbw1; have I1 := Blk.call (Blk.new (w.alloc (.cells #[.int .i64 0, .string ⟨#[]⟩] 97)) 34 #[.int .i64 0]) hbw1; have q0 := I0.q; have f0 := I0.fz; have q1 := I1.q; have f1 := I1.fz; simp at q1 f1; have HI0 := Lib.hid I0; have HI1 := Lib.hid I1; clear I0 I1; have k3 := isB_bstr ((((HV0.out.alloc _).alloc _).below hbw1).alloc (.cells #[.func (.func g) #[] lb, .int .i64 0] 169))) | ((go_at_call 139); (with_reducible refine (HVA.out _ (((((HG.out.alloc _).alloc _).below hbw1).alloc _).alloc _)).mono ?_); rintro e w2 ⟨rfl, hbw2⟩; have J0 := Blk.call ((HI0.out.alloc _).alloc _) hbw2; have J1 := Blk.call ((HI1.out.alloc _).alloc _) hbw2; have J2 := Blk.call (Blk.new (w1.alloc (.cells #[.func (.func g) #[] lb, .int .i64 0] 169)) 97 #[.int .i64 k, .string (bStr c)]) hbw2; have p0 := J0.q; have g0 := J0.fz; have p1 := J1.q; have g1 := J1.fz; have p2 := J2.q; simp at p1 g1 p2; have sz2 := hbw2.size; simp at sz2; have z0 : w.heap.size < w2.heap.size := (by omega); have z1 : w.heap.size + 1 < w2.heap.size := (by omega); clear sz2))
    refine bodyPost_ret (v := .tuple #[.agg #[.int .i64 k, .string (bStr c)], .int .i64 0]) (by simp only [results, Tryz.results110]; go_simp) rfl ?_
    have b1 : Below w.heap.size w w1 := (((Below.refl _ w).alloc (Nat.le_refl _) _).alloc (by simp) _).trans (hbw1.mono (by simp; omega))
    have b2 : Below w.heap.size w w2 := ((b1.alloc (by omega) _).alloc (by simp; omega) _).trans (hbw2.mono (by simp; omega))
    exact ⟨by ((repeat' (first | (with_reducible exact Below.refl _ _) | (with_reducible assumption) | (with_reducible refine Below.setCell ?_ ?_ _) | (with_reducible refine Below.alloc ?_ ?_ _) | (with_reducible refine Below.drew ?_) | (with_reducible refine below_drewN ?_ _) | (with_reducible refine Below.step (by with_reducible assumption) ?_ ?_))) <;> (first | omega | (simp; done) | (simp; omega))), .inr ⟨c, by rw [HDO.out]; rfl, rfl⟩⟩
end Go.Proofs.YtlmnmgokfnnbbaaGreatDoor
end
