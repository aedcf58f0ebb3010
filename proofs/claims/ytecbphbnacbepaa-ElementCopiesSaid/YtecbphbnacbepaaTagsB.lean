/- The walk over Tags of the program. -/
import Derived.Test.YtecbphbnacbepaaTags
import Derived.Deep.QuietTactic
import Derived.BigQuiet
set_option linter.unusedSimpArgs false
set_option linter.unusedVariables false
namespace Go.Proofs.Ytecbphbnacbepaa
open Go.RowKit Go.Cr

set_option maxRecDepth 100000 in
set_option maxHeartbeats 2000000 in
theorem tags_any (v : Value) (xs : List Elem) (w : World) (hv : IsR w v 6 xs.length (elCells xs)) (hn : xs.length ≤ 1000000) :
    Calls Try.prog 12 #[v] w (RetB (.string ⟨(tagsL xs).toArray⟩) w) := by
  have hlen := hv.len ulEl
  have hmx : (xs.length : Int) ≤ 1000000 := by omega
  have HV := Lib.hid hv
  have HJ := Lib.hid (fun x W (h : World.ownsRow W w.heap.size 9 1 x xs.length (sCells xs)) => join_any x xs w.heap.size W h hn)
  obtain ⟨T, hT⟩ : ∃ T : ByteArray, T = ⟨(tagsL xs).toArray⟩ := ⟨_, rfl⟩
  rw [← hT] at HJ ⊢
  clear hv hT
  obtain ⟨i0, hi, hz0, hz1, hz2⟩ := info_parts infoS
  have HI := Lib.hid hi
  clear hi
  have H0 := Lib.hid hz0; have H1 := Lib.hid hz1; have H2 := Lib.hid hz2
  clear hz0 hz1 hz2
  go_enter Try.func12, Try.ntmps12
  go_wp2
  go_loopw [11, 3] (fun i out wr => TgRel xs w i out wr) (fun i _ _ => xs.length - (intOf i).toNat)
  case atStart => exact ⟨0, by omega, rfl, World.ownsRow_nil _ _ _ _, Below.refl _ _⟩
  case round =>
    obtain ⟨k, hk, rfl, ho, hbel⟩ := hrel
    have HO := Lib.hid ho
    clear ho
    by_cases hlt : (k : Int) < xs.length
    · obtain ⟨b1, o1, hi1, hb1, hc1⟩ := (HV.out.below hbel).at_ (P := Try.prog) ulEl szEl .i64 (i := k) (by omega) hlt
      have hkl : k < xs.length := by omega
      have hx := elCells_at xs k hkl
      have HS := Lib.hid (sCells_succ xs k hkl)
      generalize hxk : xs[k] = x at *
      have hw0 : wordOf x = if idOk x then dg (idI x / 16) ++ dg (idI x % 16) else ⟨#[63, 63]⟩ := rfl
      have HW := Lib.hid hw0
      clear hw0 hxk
      obtain ⟨xc, xn, xk, xs', xb, xe⟩ := x
      have e0 := hx 0 (by omega); have e1 := hx 1 (by omega); have e2 := hx 2 (by omega); have e3 := hx 3 (by omega); have e4 := hx 4 (by omega); have e5 := hx 5 (by omega)
      simp only [Elem.cells, List.getElem?_cons_zero, List.getElem?_cons_succ] at e0 e1 e2 e3 e4 e5
      simp only [Int.toNat_natCast] at hc1
      have p0 := hc1 0 _ e0; have p1 := hc1 1 _ e1; have p2 := hc1 2 _ e2; have p3 := hc1 3 _ e3; have p4 := hc1 4 _ e4; have p5 := hc1 5 _ e5
      rw [Nat.add_zero] at p0
      clear e0 e1 e2 e3 e4 e5 hc1 hx
      generalize wordOf ⟨xc, xn, xk, xs', xb, xe⟩ = W at *
      by_cases hid : 0 ≤ xc ∧ xc ≤ 3 ∧ 0 ≤ xn ∧ xn < 31
      · have hW : W = dg (idI ⟨xc, xn, xk, xs', xb, xe⟩ / 16) ++ dg (idI ⟨xc, xn, xk, xs', xb, xe⟩ % 16) := by rw [HW.out]; exact if_pos hid
        have HI0 : Hid (∀ W, Calls Try.prog 32 #[.int .i64 xc, .bool xk, .int .i64 xn] W fun e w' => e = .returned (.tuple #[.int .u8 (idI ⟨xc, xn, xk, xs', xb, xe⟩), .int .i64 0]) ∧ W = w') := fun W => ident_good xc xn xk W hid.1 hid.2.1 hid.2.2.1 hid.2.2.2
        have hr0 : 0 ≤ idI ⟨xc, xn, xk, xs', xb, xe⟩ := by unfold idI; simp only; split <;> omega
        have hr1 : idI ⟨xc, xn, xk, xs', xb, xe⟩ < 256 := by unfold idI; simp only; split <;> omega
        clear HW
        generalize idI ⟨xc, xn, xk, xs', xb, xe⟩ = q at *
        have h15 := u8_and_15 q hr0 hr1
        have hs1 := fun Wo => slice_dg (q / 16) Wo (by omega) (by omega)
        have hs2 := fun Wo => slice_dg (q % 16) Wo (by omega) (by omega)
        have hz1 := dg_size (q / 16)
        have hz2 := dg_size (q % 16)
        generalize dg (q / 16) = s1 at *
        generalize dg (q % 16) = s2 at *
        have HW := Lib.hid hW
        clear hW hid
        have hwr1 : IntKind.u8.wrap (q / 16 + 1) = q / 16 + 1 := wraps_u8 _ (by omega) (by omega)
        have hwr2 : IntKind.u8.wrap (q % 16 + 1) = q % 16 + 1 := wraps_u8 _ (by omega) (by omega)
        go_wp2_with (first | (go_at_call 32; (with_reducible refine (HI0.out _).mono ?_); rintro e w1 ⟨rfl, rfl⟩))
        go_region
        go_wp2_with (at_builtin; refine wpList_app _ rfl _ _ 54 rfl w.heap.size 9 i0 (.string ByteArray.empty) 1 16 ulSs HI.out H0.out H1.out H2.out rfl (by decide) _ k _ rfl (ownsRow_below HO.out (by ((repeat' (first | (with_reducible exact Below.refl _ _) | (with_reducible assumption) | (with_reducible refine Below.setCell ?_ ?_ _) | (with_reducible refine Below.alloc ?_ ?_ _) | (with_reducible refine Below.drew ?_) | (with_reducible refine below_drewN ?_ _) | (with_reducible refine Below.step (by with_reducible assumption) ?_ ?_))) <;> (first | omega | (simp; done) | (simp; omega))))) _ 1 [.string (s1 ++ s2)] rfl (isR_at rfl (by simp)) (by intro u hu; simp at hu; subst hu; rfl) (by have : maxLen = 9223372036854775807 := rfl; omega) (by omega) ?k2 ?_)
        case k2 => have := hbel.size; simp; omega
        intro v2 w2 ho2 _ hb2
        have HO2 := Lib.hid ho2
        have hbel2 : Below w.heap.size w w2 := by
          refine Below.trans ?_ hb2
          have hbs := hbel.size
          ((repeat' (first | (with_reducible exact Below.refl _ _) | (with_reducible assumption) | (with_reducible refine Below.setCell ?_ ?_ _) | (with_reducible refine Below.alloc ?_ ?_ _) | (with_reducible refine Below.drew ?_) | (with_reducible refine below_drewN ?_ _) | (with_reducible refine Below.step (by with_reducible assumption) ?_ ?_))) <;> (first | omega | (simp; done) | (simp; omega)))
        clear ho2 hb2
        go_wp2
        go_roundw
        case rel => exact ⟨k + 1, by omega, by go_num, by rw [HS.out, HW.out]; exact HO2.out, hbel2⟩
        case measure => simp [intOf]; omega
      · have hid' : xc < 0 ∨ 3 < xc ∨ xn < 0 ∨ 31 ≤ xn := by omega
        have HI0 := Lib.hid (ident_bad xc xn xk · hid')
        have hW : W = ⟨#[63, 63]⟩ := by rw [HW.out]; exact if_neg hid
        subst hW
        clear HW hid hid'
        go_wp2_with (first | (go_at_call 32; (with_reducible refine (HI0.out _).mono ?_); rintro e w1 ⟨rfl, rfl⟩) | (at_builtin; refine wpList_app _ rfl _ _ 54 rfl w.heap.size 9 i0 (.string ByteArray.empty) 1 16 ulSs HI.out H0.out H1.out H2.out rfl (by decide) _ k _ rfl (ownsRow_below HO.out (by ((repeat' (first | (with_reducible exact Below.refl _ _) | (with_reducible assumption) | (with_reducible refine Below.setCell ?_ ?_ _) | (with_reducible refine Below.alloc ?_ ?_ _) | (with_reducible refine Below.drew ?_) | (with_reducible refine below_drewN ?_ _) | (with_reducible refine Below.step (by with_reducible assumption) ?_ ?_))) <;> (first | omega | (simp; done) | (simp; omega))))) _ 1 [.string ⟨#[63, 63]⟩] rfl (isR_at rfl (by simp)) (by intro u hu; simp at hu; subst hu; rfl) (by have : maxLen = 9223372036854775807 := rfl; omega) (by omega) ?k2 ?_))
        case k2 => have := hbel.size; simp; omega
        intro v2 w2 ho2 _ hb2
        have HO2 := Lib.hid ho2
        have hbel2 : Below w.heap.size w w2 := by
          refine Below.trans ?_ hb2
          have hbs := hbel.size
          ((repeat' (first | (with_reducible exact Below.refl _ _) | (with_reducible assumption) | (with_reducible refine Below.setCell ?_ ?_ _) | (with_reducible refine Below.alloc ?_ ?_ _) | (with_reducible refine Below.drew ?_) | (with_reducible refine below_drewN ?_ _) | (with_reducible refine Below.step (by with_reducible assumption) ?_ ?_))) <;> (first | omega | (simp; done) | (simp; omega)))
        clear ho2 hb2
        go_wp2
        go_roundw
        case rel => exact ⟨k + 1, by omega, by go_num, by rw [HS.out]; exact HO2.out, hbel2⟩
        case measure => simp [intOf]; omega
    · obtain rfl : k = xs.length := by omega
      rw [List.take_length] at HO
      go_wp2_with (go_at_call 33; (with_reducible refine (HJ.out _ _ HO.out).mono ?_); rintro e w2 ⟨rfl, hb2⟩)
      have hbs := hbel.size
      have hbf : Below w.heap.size w w2 := hbel.trans (hb2.mono hbs)
      (refine bodyPost_retB (v := .string T) (by (simp only [results, Try.results12]; try go_simp)) rfl rfl ?_; ((repeat' (first | (with_reducible exact Below.refl _ _) | (with_reducible assumption) | (with_reducible refine Below.setCell ?_ ?_ _) | (with_reducible refine Below.alloc ?_ ?_ _) | (with_reducible refine Below.drew ?_) | (with_reducible refine below_drewN ?_ _) | (with_reducible refine Below.step (by with_reducible assumption) ?_ ?_))) <;> (first | omega | (simp; done) | (simp; omega))))
end Go.Proofs.Ytecbphbnacbepaa
