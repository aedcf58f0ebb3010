/- The parts RefS, DnF, DnG, DrE, DrF, DrA of one proof, one behind the other. -/
import Derived.Test.YtlmnmgokfnnbbaaGreatDoorK20
import Derived.Test.YtlmnmgokfnnbbaaGreatDoorK09
import Derived.LoopTactic
import Derived.Test.YtlmnmgokfnnbbaaGreatDoorK11
import Derived.Test.YtlmnmgokfnnbbaaGreatDoorK01
import Derived.Deep.RegionHeld3

/- Walks over the reference's layer 7 (charset): Octets, Points. -/
section
set_option linter.unusedSimpArgs false
set_option linter.unusedVariables false
namespace Go.Proofs.YtlmnmgokfnnbbaaGreatDoor
open Go.RowKit Go.Cr
/-! ### Points -/
def RetPt (o : Option (List Nat)) (w : World) (e : Ending) (w' : World) : Prop := Below w.heap.size w w' ∧ ((o = none ∧ e = .returned (.tuple #[.slice none 0 0, .bool false])) ∨ ∃ cs v, o = some cs ∧ e = .returned (.tuple #[v, .bool true]) ∧ IsU .i64 w' v cs)
end Go.Proofs.YtlmnmgokfnnbbaaGreatDoor
end

/- Walk over dn.ParseRDN: the loop over the elements. -/
section
set_option linter.unusedSimpArgs false
set_option linter.unusedVariables false
namespace Go.Proofs.YtlmnmgokfnnbbaaGreatDoor
open Go.RowKit Go.Cr
def PrRel (n : Nat) (ps : List (List UInt8)) (w1 : World) (ov pv ix : Value) (wr : World) : Prop :=
  ∃ (i : Nat) (ats : Rdn) (A : Option Addr) (k : Nat) (ys : List Value), ix = .int .i64 (i : Int) ∧ i ≤ n ∧ ats.length = i ∧ (∀ j (h : j < ats.length), parX (ps.getD j []) = some ats[j]) ∧ ascB (ps.take i) = true ∧
    pv = .slice A i k ∧ wr.ownsRow w1.heap.size 33 1 (.slice A i k) i ys ∧ (∀ j, j < i → IsB w1 (ys.getD j undef) (ps.getD j [])) ∧ OwL repA (fun g => some g ≠ (Value.slice A i k).ownBlock) wr w1.heap.size 58 ov ats ∧ Below w1.heap.size w1 wr
set_option maxRecDepth 100000 in
set_option maxHeartbeats 32000000 in
theorem pr_loop (v : Value) (b : List UInt8) (xs : List Elem) (w : World) (hG : Glo w) (hv : IsB w v b) (hL : b.length ≤ 90000) (hp : partsE b 0 17 = .ok xs) (h0 : xs.length ≠ 0) : Calls Tryz.prog 25 #[v] w (RetPR (parR b) b.length w) := by
  have hall := (partsE_ok hp).2.2.2.2.2
  have hpr : parR b = match optL parX (segsE b xs) with | none => none | some r => if r.length ≠ 0 ∧ ascB (segsE b xs) = true then some r else none := by
    simp only [parR, hp]
    rfl
  have hsl : (segsE b xs).length = xs.length := segsE_len b xs
  have HNX : Hid (∀ i, i < xs.length → parX ((segsE b xs).getD i []) = none → parR b = none) := fun i hi he => by
    rw [hpr, optL_bad (by rw [hsl]; exact hi) (by simpa [hsl, hi] using he)]
  have HNA : Hid (∀ i, ascB ((segsE b xs).take i) = false → parR b = none) := fun i he => by
    have : ascB (segsE b xs) = false := by
      cases h : ascB (segsE b xs) with
      | false => rfl
      | true => rw [ascB_take h] at he; cases he
    rw [hpr]
    split
    · rfl
    · rw [if_neg (fun h => by rw [this] at h; exact absurd h.2 (by decide))]
  have HYS : Hid (∀ ats : Rdn, ats.length = xs.length → (∀ j (h : j < ats.length), parX ((segsE b xs).getD j []) = some ats[j]) → ascB (segsE b xs) = true → parR b = some ats) := fun ats hl h ha => by
    have ho : optL parX (segsE b xs) = some ats := optL_mk (by rw [hsl, hl]) fun i h1 h2 => by
      have := h i h2
      simpa [h1] using this
    rw [hpr, ho]
    exact if_pos ⟨by omega, ha⟩
  have hcnt : xs.length ≤ 90000 := by
    obtain ⟨hb, _⟩ := partsE_ok hp
    have h1 := cnt_flat (ls := segsE b xs) (fun p hp' => by
      unfold segsE at hp'
      obtain ⟨x, hx, rfl⟩ := List.mem_map.1 hp'
      exact ⟨_, (hall x hx).2.2.2.2⟩)
    have h2 := encO_len 0 17 true (segsE b xs).flatten
    rw [← hb] at h2
    omega
  have HALL : Hid (∀ (i : Nat) (hi : i < xs.length), 0 ≤ xs[i].start ∧ xs[i].start ≤ xs[i].stop ∧ xs[i].stop ≤ b.length ∧ (segsE b xs).getD i [] = seg b xs[i].start xs[i].stop) := fun i hi => by
    obtain ⟨a0, a1, a2, a3, _⟩ := hall xs[i] (List.getElem_mem hi)
    exact ⟨a0, by omega, a3, by simp [segsE, hi]⟩
  have HP := Lib.hid (fun W h => parts_ownD (v := v) (by omega) hp W h)
  have HORD := Lib.hid (fun v ls W (h : IsBs W v ls) => pOrdered v ls W h)
  have HAP := Lib.hid (fun v y W (g : Glo W) (h : IsB W v y) (hl : y.length ≤ 90000) => attParseX v y W g h hl)
  obtain ⟨cells, hcl⟩ : ∃ cells, elCells xs = cells := ⟨_, rfl⟩
  have HCL := Lib.hid hcl
  obtain ⟨PR, hPR⟩ : ∃ PR, parR b = PR := ⟨_, rfl⟩
  rw [hPR] at HNX HNA HYS ⊢
  obtain ⟨A, c, rfl⟩ := isB_slice hv
  have HV := Lib.hid hv
  have HG := Lib.hid hG
  obtain ⟨i0, hi0, hz0, hz1, hz2⟩ := info_parts infoBsD
  obtain ⟨j0, hj0, hy0, hy1, hy2⟩ := info_parts infoAtt
  unfold RetPoD at HP
  simp only [errV] at HP
  have h0I : ((xs.length : Int) == 0) = false := beq_eq_false_iff_ne.2 (by omega)
  have HPL := Lib.hid hsl
  clear hv hG hp hall hpr hsl hcl hPR
  generalize segsE b xs = ps at *
  go_enter Tryz.func25, Tryz.ntmps25
  go_wp2_with (((go_at_call 53); (with_reducible refine (HP.out _ (HV.out.alloc _)).mono ?_); rintro e w1 ⟨A5, k5, rfl, hr, hbw1⟩; rw [HCL.out] at hr; have hl5 := (IsR.of_own hr).len (P := Tryz.prog) ulEl; have HRS := Lib.hid hr; have HK1 := Lib.hid (Blk.call (Blk.new w 38 #[.int .i64 0, .int .i64 0]) hbw1); have HB1 := Lib.hid (((Below.refl w.heap.size w).alloc (Nat.le_refl _) (.cells #[.int .i64 0, .int .i64 0] 38)).trans (hbw1.mono (by simp))); clear hr hbw1))
  have HB2 := Lib.hid (HB1.out.alloc HB1.out.size (.cells #[.int .i64 0, .int .i64 0] 38))
  have HK2 := Lib.hid (HK1.out.alloc (.cells #[.int .i64 0, .int .i64 0] 38))
  have HRS2 := Lib.hid (ownsRow_more (base' := 0) (ownsRow_below HRS.out ((Below.refl _ w1).alloc (Nat.le_refl _) (.cells #[.int .i64 0, .int .i64 0] 38))) (Nat.zero_le _))
  have hw2 : w.heap.size < (w1.alloc (.cells #[.int .i64 0, .int .i64 0] 38)).heap.size := HK2.out.lt
  clear HB1 HK1 HRS HP
  generalize w1.alloc (.cells #[.int .i64 0, .int .i64 0] 38) = w2 at *
  go_loopw [6, 7, 29] (fun ov pv ix wr => PrRel xs.length ps w2 ov pv ix wr) (fun _ _ ix _ => xs.length + 1 - (intOf ix).toNat)
  case atStart => exact ⟨0, [], none, 0, [], rfl, Nat.zero_le _, rfl, fun j h => absurd h (by simp), rfl, rfl, World.ownsRow_nil _ _ _ _, fun j h => by omega, OwL.nil_ _ _ _ _, Below.refl _ _⟩
  case round =>
    obtain ⟨i, ats, Ap, kp, ys, rfl, hi, hal, has, hasc, rfl, hrow, hys, how, hbel⟩ := hrel
    have HAS := Lib.hid has
    have HAL := Lib.hid hal
    have HASC := Lib.hid hasc
    have HROW := Lib.hid hrow
    have HYE := Lib.hid hys
    have HOW := Lib.hid how
    have HBR := Lib.hid hbel
    have hsz := hbel.size
    have HCU := Lib.hid (HB2.out.trans (hbel.mono (Nat.le_of_lt hw2)))
    have HKR := Lib.hid (HK2.out.below hbel hw2)
    have lKR := HKR.out.lt
    have HYL := Lib.hid (show ys.length = i by have := hrow.1; simpa using this)
    by_cases hlt : i < xs.length
    · obtain ⟨b2, o2, hi2, hS2, hl2, hc2⟩ := rs_at (IsRS.of_own (ownsRow_below HRS2.out hbel)) ulEl szEl .i64 (i := (i : Int)) (by omega) (by omega)
      rw [Int.toNat_natCast, ← HCL.out] at hc2
      obtain ⟨p0, p1, p2, p3, p4, p5⟩ := elc_at hlt rfl hc2
      obtain ⟨a0, a1, a2, a3⟩ := HALL.out i hlt
      obtain ⟨vc, hcut, hvc⟩ := (HV.out.below HB2.out).cut (P := Tryz.prog) ulB szB .i64 .i64 (lo := xs[i].start) (hi := xs[i].stop) a0 a1 a2
      have hvc' : IsB w2 vc (seg b xs[i].start xs[i].stop) := hvc
      have hsl := seg_len b xs[i].start xs[i].stop a0 a1 a2
      rw [← a3] at hvc' hsl
      have hltI : (i : Int) < xs.length := by omega
      have HSN := Lib.hid hsl
      have hple : (ps.getD i []).length ≤ 90000 := by omega
      obtain ⟨Ac, kc, rfl⟩ := isB_slice hvc'
      have HVC := Lib.hid hvc'
      have HNXi := Lib.hid (fun h => HNX.out i hlt h)
      have HNAi := Lib.hid (HNA.out (i + 1))
      have hlb2 : b2 < wr.heap.size := hl2
      clear hc2 hvc hvc' hsl hasc has hrow hys how hal hbel a3
      generalize hyi : ps.getD i [] = y at *
      have HYI := Lib.hid hyi
      clear hyi
      generalize xs[i] = x at *
      obtain ⟨xc, xn, xk, xs', xb, xe⟩ := x
      simp only at p0 p1 p2 p3 p4 p5 a0 a1 a2 hcut
      have KX := Lib.hid (Blk.new wr 76 #[.int .i64 xc, .int .i64 xn, .bool xk, .int .i64 xs', .int .i64 xb, .int .i64 xe])
      go_wp2_with (at_builtin; refine wpList_app2 _ rfl _ _ 74 rfl w2.heap.size 33 i0 (.slice none 0 0) 1 24 ulBs hi0 hz0 hz1 hz2 rfl (by decide) _ i ys rfl (ownsRow_below (ownsRow_below HROW.out ((Below.refl _ _).alloc (Nat.le_refl _) _)) ((Below.refl _ _).alloc (Nat.le_refl _) _)) _ 1 [.slice Ac y.length kc] rfl (isR_at rfl (by simp)) (fun u hu => by simp at hu; subst hu; rfl) ?n1 ?n2 ?n3 ?_)
      case n1 => unfold maxLen; omega
      case n2 => omega
      case n3 => first | omega | (simp; omega)
      intro v3 w3 hrow3 hg3 hb3 hat3
      obtain ⟨A3, k3, hv3⟩ : ∃ A3 k3, v3 = .slice A3 (i + 1) k3 := by obtain ⟨A3, k3, h, _⟩ := IsR.of_own hrow3; exact ⟨A3, k3, h⟩
      subst hv3
      have hne : ∀ g, g < w2.heap.size → some g ≠ (Value.slice Ap i kp).ownBlock := fun g hg he => by
        have := (HROW.out.lt _ he.symm).1
        omega
      have hneN : ∀ g, wr.heap.size ≤ g → some g ≠ (Value.slice Ap i kp).ownBlock := fun g hg he => by
        have := (HROW.out.lt _ he.symm).2
        omega
      have HROW3 := Lib.hid hrow3
      have HOW3 := Lib.hid (((HOW.out.alloc _).alloc _).besides (v1' := .slice A3 (i + 1) k3) hg3 (by simpa using hat3))
      have HB3 := Lib.hid (((HBR.out.alloc hsz (.cells #[.int .i64 xc, .int .i64 xn, .bool xk, .int .i64 xs', .int .i64 xb, .int .i64 xe] 76)).alloc (by simp; omega) (.cells #[.slice Ac y.length kc] 33)).trans hb3)
      have HK3 := Lib.hid (Blk.grown ((HKR.out.alloc (.cells #[.int .i64 xc, .int .i64 xn, .bool xk, .int .i64 xs', .int .i64 xb, .int .i64 xe] 76)).alloc (.cells #[.slice Ac y.length kc] 33)) hg3 (hne _ hw2))
      have HX3 := Lib.hid (Blk.grown (KX.out.alloc (.cells #[.slice Ac y.length kc] 33)) hg3 (hneN _ (Nat.le_refl _)))
      have hs3 : w2.heap.size ≤ w3.heap.size := HB3.out.size
      have qX3 := HX3.out.q
      have lX3 := HX3.out.lt
      have HC3 := Lib.hid (HB2.out.trans (HB3.out.mono (Nat.le_of_lt hw2)))
      have HY3 : Hid (∀ j, j < i + 1 → IsB w2 ((ys ++ [Value.slice Ac y.length kc]).getD j undef) (ps.getD j [])) := Lib.hid (fun j hj => by
        by_cases hji : j < i
        · have h1 := HYE.out j hji
          have hyl := HYL.out
          simp only [List.getD_eq_getElem?_getD] at h1 ⊢
          rw [List.getElem?_append_left (by omega)]
          exact h1
        · obtain rfl : j = i := by omega
          have hyl := HYL.out
          have e : (ys ++ [Value.slice Ac y.length kc]).getD j undef = .slice Ac y.length kc := by simp [← hyl]
          rw [e, HYI.out]
          exact HVC.out)
      clear hrow3 hg3 hb3 hat3 p0 p1 p2 p3 p4 p5
      cases hpx : parX y with
      | none =>
        have HPX := Lib.hid (show ∀ W, Glo W → IsB W (.slice Ac y.length kc) y → Calls Tryz.prog 54 #[.slice Ac y.length kc] W (RetPX none y.length W) from fun W g h => by have := HAP.out _ y W g h hple; rwa [hpx] at this)
        obtain rfl := HNXi.out hpx
        unfold RetPX at HPX
        simp only [errV] at HPX
        clear hpx
        go_wp2_with (((go_at_call 54); (with_reducible refine (HPX.out _ (HG.out.below HC3.out) (HVC.out.below HB3.out)).mono ?_); rintro e w4 ⟨hbw4, ec, eo, h1, h2, h3, rfl⟩; have hn : (ec == 0) = false := beq_eq_false_iff_ne.2 (by omega); have hn' : (ec != 0) = true := (by simp; omega); have X4 := HX3.out.call hbw4; have qX4 := X4.q; have lX4 := X4.lt; have K4 := HK3.out.call hbw4; have qK4 := K4.q; have fK4 := K4.fz; have lK4 := K4.lt; have HC4 := Lib.hid (HC3.out.trans (hbw4.mono HC3.out.size)); have HER := Lib.hid (And.intro h1 (And.intro h2 h3)); have hsn := HSN.out; (try simp only at hsn); have HEL := Lib.hid (show xs' + eo ≤ b.length by omega); have hws : IntKind.i64.wrap (xs' + eo) = xs' + eo := (by rw [IntKind.wrap_i64]; omega); clear X4 K4 hbw4))
        go_region
        all_goals
          go_wp2
          refine bodyPost_ret (v := .tuple #[.slice none 0 0, errV (ec, xs' + eo)]) (by simp only [results, Tryz.results25]; go_simp) rfl ?_
          have s1 := HC4.out.size
          have b1 := HC4.out
          exact ⟨by ((repeat' (first | (with_reducible exact Below.refl _ _) | (with_reducible assumption) | (with_reducible refine Below.setCell ?_ ?_ _) | (with_reducible refine Below.alloc ?_ ?_ _) | (with_reducible refine Below.drew ?_) | (with_reducible refine below_drewN ?_ _) | (with_reducible refine Below.step (by with_reducible assumption) ?_ ?_))) <;> (first | omega | (simp; done) | (simp; omega))), ec, xs' + eo, HER.out.1, by have := HER.out; omega, HEL.out, rfl⟩
      | some a =>
        have HPX := Lib.hid (show ∀ W, Glo W → IsB W (.slice Ac y.length kc) y → Calls Tryz.prog 54 #[.slice Ac y.length kc] W (RetPX (some a) y.length W) from fun W g h => by have := HAP.out _ y W g h hple; rwa [hpx] at this)
        unfold RetPX at HPX
        simp only [errV] at HPX
        have HPXa := Lib.hid hpx
        clear hpx
        obtain ⟨s, l⟩ := a
        simp only at HPX
        have HBs3 := Lib.hid (show ∀ W, Below w2.heap.size w2 W → W.ownsRow w2.heap.size 33 1 (.slice A3 (i + 1) k3) (i + 1) (ys ++ [.slice Ac y.length kc]) → IsBs W (.slice A3 (i + 1) k3) (ps.take (i + 1)) from fun W hW hr => ⟨_, by rw [show (ps.take (i + 1)).length = i + 1 by rw [List.length_take, HPL.out]; omega]; exact IsR.of_own hr, fun j hj => by
          have hj' : j < i + 1 := by rw [List.length_take] at hj; omega
          have h1 := (HY3.out j hj').below hW
          have h2 : (ps.take (i + 1)).getD j [] = ps.getD j [] := by simp [List.getD_eq_getElem?_getD, List.getElem?_take, hj']
          rw [h2]
          exact h1⟩)
        cases hac : ascB (ps.take (i + 1)) with
        | false =>
          obtain rfl := HNAi.out hac
          have HO2 := Lib.hid (show ∀ W u, IsBs W u (ps.take (i + 1)) → Calls Tryz.prog 55 #[u] W (RetB (.bool false) W) from fun W u h => by have := HORD.out u _ W h; rwa [hac] at this)
          clear hac
          go_wp2_with (first | ((go_at_call 54); (with_reducible refine (HPX.out _ (HG.out.below HC3.out) (HVC.out.below HB3.out)).mono ?_); rintro e w4 ⟨A4, k4, rfl, ho4, hbw4⟩; have HV4 := Lib.hid ((IsRS.of_own ho4).weak (S' := fun b => w3.heap.size ≤ b) (fun b _ hS => hS)); have hz4 := hbw4.size; have HX5 := Lib.hid (((HX3.out.call hbw4).alloc (.cells #[.string s, .slice A4 l.length k4] 58)).alloc (.cells #[.int .i64 0, .int .i64 0] 38)); have HK5 := Lib.hid (((HK3.out.call hbw4).alloc (.cells #[.string s, .slice A4 l.length k4] 58)).alloc (.cells #[.int .i64 0, .int .i64 0] 38)); have HA5 := Lib.hid ((Blk.new w4 58 #[.string s, .slice A4 l.length k4]).alloc (.cells #[.int .i64 0, .int .i64 0] 38)); have HC4 := Lib.hid (HC3.out.trans (hbw4.mono HC3.out.size)); have HC5 := Lib.hid ((HC4.out.alloc HC4.out.size (.cells #[.string s, .slice A4 l.length k4] 58)).alloc (by have := HC4.out.size; simp; omega) (.cells #[.int .i64 0, .int .i64 0] 38)); have HB4 := Lib.hid (HB3.out.trans (hbw4.mono HB3.out.size)); have HB5 := Lib.hid ((HB4.out.alloc HB4.out.size (.cells #[.string s, .slice A4 l.length k4] 58)).alloc (by have := HB4.out.size; simp; omega) (.cells #[.int .i64 0, .int .i64 0] 38)); have HR4 := Lib.hid (ownsRow_below HROW3.out hbw4); have HR5 := Lib.hid (ownsRow_below (ownsRow_below HR4.out ((Below.refl _ _).alloc (Nat.le_refl _) (.cells #[.string s, .slice A4 l.length k4] 58))) ((Below.refl _ _).alloc (Nat.le_refl _) (.cells #[.int .i64 0, .int .i64 0] 38))); have HOW5 := Lib.hid (((HOW3.out.below hbw4).alloc (.cells #[.string s, .slice A4 l.length k4] 58)).alloc (.cells #[.int .i64 0, .int .i64 0] 38)); have HV5 := Lib.hid ((HV4.out.keep (w' := w4.alloc (.cells #[.string s, .slice A4 l.length k4] 58)) (by simp) (fun b hb _ => Below.heap_alloc _ _ _ hb)).keep (w' := (w4.alloc (.cells #[.string s, .slice A4 l.length k4] 58)).alloc (.cells #[.int .i64 0, .int .i64 0] 38)) (by simp) (fun b hb _ => Below.heap_alloc _ _ _ hb)); clear hbw4 ho4) | ((go_at_call 55); (with_reducible refine (HO2.out _ _ (HBs3.out _ HB5.out HR5.out)).mono ?_); rintro e w7 ⟨rfl, hbw7⟩; have X7 := HX5.out.call hbw7; have qX7 := X7.q; have lX7 := X7.lt; have K7 := HK5.out.call hbw7; have qK7 := K7.q; have fK7 := K7.fz; have lK7 := K7.lt; have HC7 := Lib.hid (HC5.out.trans (hbw7.mono HC5.out.size)); clear hbw7 X7 K7))
          go_region
          all_goals
            go_wp2
            refine bodyPost_ret (v := .tuple #[.slice none 0 0, errV (7, xs')]) (by simp only [results, Tryz.results25]; go_simp) rfl ?_
            have s1 := HC7.out.size
            have b1 := HC7.out
            exact ⟨by ((repeat' (first | (with_reducible exact Below.refl _ _) | (with_reducible assumption) | (with_reducible refine Below.setCell ?_ ?_ _) | (with_reducible refine Below.alloc ?_ ?_ _) | (with_reducible refine Below.drew ?_) | (with_reducible refine below_drewN ?_ _) | (with_reducible refine Below.step (by with_reducible assumption) ?_ ?_))) <;> (first | omega | (simp; done) | (simp; omega))), 7, xs', by decide, a0, by omega, rfl⟩
        | true =>
          have HACT := Lib.hid hac
          have HO2 := Lib.hid (show ∀ W u, IsBs W u (ps.take (i + 1)) → Calls Tryz.prog 55 #[u] W (RetB (.bool true) W) from fun W u h => by have := HORD.out u _ W h; rwa [hac] at this)
          clear hac
          go_wp2_with (first | ((go_at_call 54); (with_reducible refine (HPX.out _ (HG.out.below HC3.out) (HVC.out.below HB3.out)).mono ?_); rintro e w4 ⟨A4, k4, rfl, ho4, hbw4⟩; have HV4 := Lib.hid ((IsRS.of_own ho4).weak (S' := fun b => w3.heap.size ≤ b) (fun b _ hS => hS)); have hz4 := hbw4.size; have HX5 := Lib.hid (((HX3.out.call hbw4).alloc (.cells #[.string s, .slice A4 l.length k4] 58)).alloc (.cells #[.int .i64 0, .int .i64 0] 38)); have HK5 := Lib.hid (((HK3.out.call hbw4).alloc (.cells #[.string s, .slice A4 l.length k4] 58)).alloc (.cells #[.int .i64 0, .int .i64 0] 38)); have HA5 := Lib.hid ((Blk.new w4 58 #[.string s, .slice A4 l.length k4]).alloc (.cells #[.int .i64 0, .int .i64 0] 38)); have HC4 := Lib.hid (HC3.out.trans (hbw4.mono HC3.out.size)); have HC5 := Lib.hid ((HC4.out.alloc HC4.out.size (.cells #[.string s, .slice A4 l.length k4] 58)).alloc (by have := HC4.out.size; simp; omega) (.cells #[.int .i64 0, .int .i64 0] 38)); have HB4 := Lib.hid (HB3.out.trans (hbw4.mono HB3.out.size)); have HB5 := Lib.hid ((HB4.out.alloc HB4.out.size (.cells #[.string s, .slice A4 l.length k4] 58)).alloc (by have := HB4.out.size; simp; omega) (.cells #[.int .i64 0, .int .i64 0] 38)); have HR4 := Lib.hid (ownsRow_below HROW3.out hbw4); have HR5 := Lib.hid (ownsRow_below (ownsRow_below HR4.out ((Below.refl _ _).alloc (Nat.le_refl _) (.cells #[.string s, .slice A4 l.length k4] 58))) ((Below.refl _ _).alloc (Nat.le_refl _) (.cells #[.int .i64 0, .int .i64 0] 38))); have HOW5 := Lib.hid (((HOW3.out.below hbw4).alloc (.cells #[.string s, .slice A4 l.length k4] 58)).alloc (.cells #[.int .i64 0, .int .i64 0] 38)); have HV5 := Lib.hid ((HV4.out.keep (w' := w4.alloc (.cells #[.string s, .slice A4 l.length k4] 58)) (by simp) (fun b hb _ => Below.heap_alloc _ _ _ hb)).keep (w' := (w4.alloc (.cells #[.string s, .slice A4 l.length k4] 58)).alloc (.cells #[.int .i64 0, .int .i64 0] 38)) (by simp) (fun b hb _ => Below.heap_alloc _ _ _ hb)); clear hbw4 ho4) | ((go_at_call 55); (with_reducible refine (HO2.out _ _ (HBs3.out _ HB5.out HR5.out)).mono ?_); rintro e w7 ⟨rfl, hbw7⟩; have HA7 := Lib.hid (HA5.out.call hbw7); have qA7 := HA7.out.q; have lA7 := HA7.out.lt; have HOW7 := Lib.hid (HOW5.out.below hbw7); have HB7 := Lib.hid (HB5.out.trans (hbw7.mono HB5.out.size)); have HR7 := Lib.hid (ownsRow_below HR5.out hbw7); have HV7 := Lib.hid (HV5.out.keep hbw7.size (fun b hb _ => hbw7.block b hb)); clear hbw7) | (at_builtin; refine wpList_appL (r := repA) (X := fun g => some g ≠ (Value.slice A3 (i + 1) k3).ownBlock) _ rfl _ _ 30 rfl w2.heap.size 58 ulRdn hj0 hy0 hy1 hy2 rfl (by decide) _ ats rfl (HOW7.out.alloc _) _ [.string s, .slice A4 l.length k4] (s, l) rfl (isR_at rfl rfl) ⟨_, rfl, ?e1⟩ ?m1 ?m2 ?m3 ?_))
          case e1 => exact (HV7.out.weak fun b hb hS => ⟨⟨by omega, (HOW3.out.notNew hS)⟩, fun he => by have := (HROW3.out.lt _ he.symm).2; omega⟩).keep (by simp) (fun b hb _ => Below.heap_alloc _ _ _ hb)
          case m1 => have := HAL.out; omega
          case m2 => have := HB7.out.size; simp; omega
          case m3 => intro he; have h := (HR7.out.lt _ he.symm).2; first | omega | (simp at h; done) | (simp at h; omega)
          intro v8 w8 ho8 hb8 hg8
          have HO8 := Lib.hid ho8
          have HB8 := Lib.hid ((HB7.out.alloc HB7.out.size (.cells #[.string s, .slice A4 l.length k4] 58)).trans hb8)
          have HR8 := Lib.hid (own_far (ownsRow_below HR7.out ((Below.refl _ _).alloc (Nat.le_refl _) (.cells #[.string s, .slice A4 l.length k4] 58))) hg8 HOW7.out.row_apart)
          clear ho8 hb8 hg8
          go_wp2
          go_roundw
          case rel =>
            refine ⟨i + 1, ats ++ [(s, l)], A3, k3, ys ++ [.slice Ac y.length kc], by go_num, by omega, by simp [HAL.out], fun j hj => ?_, HACT.out, rfl, HR8.out, HY3.out, HO8.out, HB8.out⟩
            have hal := HAL.out
            by_cases hji : j < ats.length
            · rw [List.getElem_append_left hji]; exact HAS.out j hji
            · have hje : j = ats.length := by simp at hj; omega
              subst hje
              have e : ps.getD ats.length [] = y := by rw [hal]; exact HYI.out
              rw [List.getElem_append_right (Nat.le_refl _), e]
              simpa using HPXa.out
          case measure => simp [intOf]; omega
    · have hie : i = xs.length := by omega
      have hge : (xs.length : Int) ≤ i := by omega
      have htk : ps.take i = ps := List.take_of_length_le (by have := HPL.out; omega)
      rw [htk] at hasc
      obtain rfl := HYS.out ats (by omega) has hasc
      have qK := HKR.out.q
      have fK := HKR.out.fz
      obtain ⟨Ao, ko, rfl⟩ := how.slice
      clear hasc has hrow hys how hbel hlt hi htk
      go_wp2_with fail
      refine bodyPost_ret (v := .tuple #[.slice Ao ats.length ko, errV (0, 0)]) (by simp only [results, Tryz.results25]; go_simp) rfl ?_
      have s1 := HCU.out.size
      have b1 := HCU.out
      refine ⟨by ((repeat' (first | (with_reducible exact Below.refl _ _) | (with_reducible assumption) | (with_reducible refine Below.setCell ?_ ?_ _) | (with_reducible refine Below.alloc ?_ ?_ _) | (with_reducible refine Below.drew ?_) | (with_reducible refine below_drewN ?_ _) | (with_reducible refine Below.step (by with_reducible assumption) ?_ ?_))) <;> (first | omega | (simp; done) | (simp; omega))), Ao, ko, rfl, ?_⟩
      exact ((HOW.out.setLow (p := ⟨w.heap.size, 0, none⟩) hw2 _).setLow (p := ⟨w.heap.size, 1, none⟩) hw2 _).more (Nat.le_of_lt hw2) |>.weak (fun _ _ _ _ => trivial)
theorem dnParseRDN (v : Value) (b : List UInt8) (w : World) (hG : Glo w) (hv : IsB w v b) (hL : b.length ≤ 90000) : Calls Tryz.prog 25 #[v] w (RetPR (parR b) b.length w) := by
  cases hp : partsE b 0 17 with
  | error er =>
    obtain ⟨ec, eo⟩ := er
    have : parR b = none := by unfold parR; rw [hp]
    rw [this]
    exact pr_err v b w ec eo hv hL hp
  | ok xs =>
    by_cases h0 : xs.length = 0
    · obtain rfl : xs = [] := List.eq_nil_of_length_eq_zero h0
      have : parR b = none := by unfold parR; rw [hp]; rfl
      rw [this]
      exact pr_short v b w hv hL hp
    · exact pr_loop v b xs w hG hv hL hp h0
end Go.Proofs.YtlmnmgokfnnbbaaGreatDoor
end

/- Walk over dn.Parse. -/
section
set_option linter.unusedSimpArgs false
set_option linter.unusedVariables false
namespace Go.Proofs.YtlmnmgokfnnbbaaGreatDoor
open Go.RowKit Go.Cr
theorem infoRdn : (Tryz.prog.info? 30).map (fun i => (i.zero, i.size, i.bytes)) = some (some (.slice none 0 0), 1, 24) := by kernel_rfl
def RetPNm (r : Option Nam) (L : Nat) (w : World) (e : Ending) (w' : World) : Prop := Below w.heap.size w w' ∧ match r with
  | none => ∃ ec eo : Int, 0 < ec ∧ 0 ≤ eo ∧ eo ≤ L ∧ e = .returned (.tuple #[.slice none 0 0, errV (ec, eo)])
  | some r => ∃ A k, e = .returned (.tuple #[.slice A r.length k, errV (0, 0)]) ∧ OwL (repL repA) (fun _ => True) w' w.heap.size 30 (.slice A r.length k) r
set_option maxRecDepth 100000 in
set_option maxHeartbeats 4000000 in
theorem pn_err (v : Value) (b : List UInt8) (w : World) (ec eo : Int) (hv : IsB w v b) (hL : b.length ≤ 90000) (hp : partsE b 0 16 = .error (ec, eo)) : Calls Tryz.prog 36 #[v] w (RetPNm none b.length w) := by
  obtain ⟨h1, h2, h3⟩ := partsE_err hp
  have HP : Hid (∀ W, IsB W v b → Calls Tryz.prog 53 #[v, .int .i64 0, .int .i64 16] W (RetB (.tuple #[.slice none 0 0, errV (ec, eo)]) W)) := fun W h => (parts_any v b 0 16 W h (by omega)).mono fun e w' hh => by
    rw [hp] at hh
    obtain ⟨hb, ⟨er, he, h⟩ | ⟨xs, o, he, _⟩⟩ := hh
    · injection he with he; subst he; exact ⟨h, hb⟩
    · cases he
  obtain ⟨A, c, rfl⟩ := isB_slice hv
  have HV := Lib.hid hv
  simp only [errV] at HP
  have hn : (ec == 0) = false := beq_eq_false_iff_ne.2 (by omega)
  have hn' : (ec != 0) = true := by simp; omega
  have HE := Lib.hid (And.intro h1 (And.intro h2 h3))
  clear hv hp h1 h2 h3
  go_enter Tryz.func36, Tryz.ntmps36
  go_wp2_with (((go_at_call 53); (with_reducible refine (HP.out _ (HV.out.alloc _)).mono ?_); rintro e w1 ⟨rfl, hbw1⟩; have K := Blk.call (Blk.new w 38 #[.int .i64 0, .int .i64 0]) hbw1; have qK := K.q; have fK := K.fz; have lK := K.lt; have HB1 := Lib.hid (((Below.refl w.heap.size w).alloc (Nat.le_refl _) (.cells #[.int .i64 0, .int .i64 0] 38)).trans (hbw1.mono (by simp))); clear K hbw1))
  go_region
  all_goals
    go_wp2
    refine bodyPost_ret (v := .tuple #[.slice none 0 0, errV (ec, eo)]) (by simp only [results, Tryz.results36]; go_simp) rfl ?_
    have s1 := HB1.out.size
    have b1 := HB1.out
    exact ⟨by ((repeat' (first | (with_reducible exact Below.refl _ _) | (with_reducible assumption) | (with_reducible refine Below.setCell ?_ ?_ _) | (with_reducible refine Below.alloc ?_ ?_ _) | (with_reducible refine Below.drew ?_) | (with_reducible refine below_drewN ?_ _) | (with_reducible refine Below.step (by with_reducible assumption) ?_ ?_))) <;> (first | omega | (simp; done) | (simp; omega))), ec, eo, HE.out.1, HE.out.2.1, HE.out.2.2, rfl⟩
def PnRel (n : Nat) (ps : List (List UInt8)) (w1 : World) (ov ix : Value) (wr : World) : Prop :=
  ∃ (i : Nat) (nm : Nam), ix = .int .i64 (i : Int) ∧ i ≤ n ∧ nm.length = i ∧ (∀ j (h : j < nm.length), parR (ps.getD j []) = some nm[j]) ∧ OwL (repL repA) (fun _ => True) wr w1.heap.size 30 ov nm ∧ Below w1.heap.size w1 wr
set_option maxRecDepth 100000 in
set_option maxHeartbeats 32000000 in
theorem pn_loop (v : Value) (b : List UInt8) (xs : List Elem) (w : World) (hG : Glo w) (hv : IsB w v b) (hL : b.length ≤ 90000) (hp : partsE b 0 16 = .ok xs) : Calls Tryz.prog 36 #[v] w (RetPNm (parNm b) b.length w) := by
  have hall := (partsE_ok hp).2.2.2.2.2
  have hpr : parNm b = optL parR (segsE b xs) := by
    simp only [parNm, hp]
  have hsl : (segsE b xs).length = xs.length := segsE_len b xs
  have HNX : Hid (∀ i, i < xs.length → parR ((segsE b xs).getD i []) = none → parNm b = none) := fun i hi he => by
    rw [hpr, optL_bad (by rw [hsl]; exact hi) (by simpa [hsl, hi] using he)]
  have HYS : Hid (∀ nm : Nam, nm.length = xs.length → (∀ j (h : j < nm.length), parR ((segsE b xs).getD j []) = some nm[j]) → parNm b = some nm) := fun nm hl h => by
    rw [hpr]
    exact optL_mk (by rw [hsl, hl]) fun i h1 h2 => by
      have := h i h2
      simpa [h1] using this
  have hcnt : xs.length ≤ 90000 := by
    obtain ⟨hb, _⟩ := partsE_ok hp
    have h1 := cnt_flat (ls := segsE b xs) (fun p hp' => by
      unfold segsE at hp'
      obtain ⟨x, hx, rfl⟩ := List.mem_map.1 hp'
      exact ⟨_, (hall x hx).2.2.2.2⟩)
    have h2 := encO_len 0 16 true (segsE b xs).flatten
    rw [← hb] at h2
    omega
  have HALL : Hid (∀ (i : Nat) (hi : i < xs.length), 0 ≤ xs[i].start ∧ xs[i].start ≤ xs[i].stop ∧ xs[i].stop ≤ b.length ∧ (segsE b xs).getD i [] = seg b xs[i].start xs[i].stop) := fun i hi => by
    obtain ⟨a0, a1, a2, a3, _⟩ := hall xs[i] (List.getElem_mem hi)
    exact ⟨a0, by omega, a3, by simp [segsE, hi]⟩
  have HP := Lib.hid (fun W h => parts_ownD (v := v) (by omega) hp W h)
  have HAP := Lib.hid (fun v y W (g : Glo W) (h : IsB W v y) (hl : y.length ≤ 90000) => dnParseRDN v y W g h hl)
  obtain ⟨cells, hcl⟩ : ∃ cells, elCells xs = cells := ⟨_, rfl⟩
  have HCL := Lib.hid hcl
  obtain ⟨PR, hPR⟩ : ∃ PR, parNm b = PR := ⟨_, rfl⟩
  rw [hPR] at HNX HYS ⊢
  obtain ⟨A, c, rfl⟩ := isB_slice hv
  have HV := Lib.hid hv
  have HG := Lib.hid hG
  obtain ⟨j0, hj0, hy0, hy1, hy2⟩ := info_parts infoRdn
  unfold RetPoD at HP
  simp only [errV] at HP
  have HPL := Lib.hid hsl
  clear hv hG hp hall hpr hsl hcl hPR
  generalize segsE b xs = ps at *
  go_enter Tryz.func36, Tryz.ntmps36
  go_wp2_with (((go_at_call 53); (with_reducible refine (HP.out _ (HV.out.alloc _)).mono ?_); rintro e w1 ⟨A5, k5, rfl, hr, hbw1⟩; rw [HCL.out] at hr; have hl5 := (IsR.of_own hr).len (P := Tryz.prog) ulEl; have HRS := Lib.hid hr; have HK1 := Lib.hid (Blk.call (Blk.new w 38 #[.int .i64 0, .int .i64 0]) hbw1); have HB1 := Lib.hid (((Below.refl w.heap.size w).alloc (Nat.le_refl _) (.cells #[.int .i64 0, .int .i64 0] 38)).trans (hbw1.mono (by simp))); clear hr hbw1))
  have HB2 := Lib.hid (HB1.out.alloc HB1.out.size (.cells #[.int .i64 0, .int .i64 0] 38))
  have HK2 := Lib.hid (HK1.out.alloc (.cells #[.int .i64 0, .int .i64 0] 38))
  have HRS2 := Lib.hid (ownsRow_more (base' := 0) (ownsRow_below HRS.out ((Below.refl _ w1).alloc (Nat.le_refl _) (.cells #[.int .i64 0, .int .i64 0] 38))) (Nat.zero_le _))
  have hw2 : w.heap.size < (w1.alloc (.cells #[.int .i64 0, .int .i64 0] 38)).heap.size := HK2.out.lt
  clear HB1 HK1 HRS HP
  generalize w1.alloc (.cells #[.int .i64 0, .int .i64 0] 38) = w2 at *
  go_loopw [6, 22] (fun ov ix wr => PnRel xs.length ps w2 ov ix wr) (fun _ ix _ => xs.length + 1 - (intOf ix).toNat)
  case atStart => exact ⟨0, [], rfl, Nat.zero_le _, rfl, fun j h => absurd h (by simp), OwL.nil_ _ _ _ _, Below.refl _ _⟩
  case round =>
    obtain ⟨i, nm, rfl, hi, hal, has, how, hbel⟩ := hrel
    have HAS := Lib.hid has
    have HAL := Lib.hid hal
    have HOW := Lib.hid how
    have HBR := Lib.hid hbel
    have hsz := hbel.size
    have HCU := Lib.hid (HB2.out.trans (hbel.mono (Nat.le_of_lt hw2)))
    have HKR := Lib.hid (HK2.out.below hbel hw2)
    have lKR := HKR.out.lt
    by_cases hlt : i < xs.length
    · obtain ⟨b2, o2, hi2, hS2, hl2, hc2⟩ := rs_at (IsRS.of_own (ownsRow_below HRS2.out hbel)) ulEl szEl .i64 (i := (i : Int)) (by omega) (by omega)
      rw [Int.toNat_natCast, ← HCL.out] at hc2
      obtain ⟨p0, p1, p2, p3, p4, p5⟩ := elc_at hlt rfl hc2
      obtain ⟨a0, a1, a2, a3⟩ := HALL.out i hlt
      obtain ⟨vc, hcut, hvc⟩ := (HV.out.below HB2.out).cut (P := Tryz.prog) ulB szB .i64 .i64 (lo := xs[i].start) (hi := xs[i].stop) a0 a1 a2
      have hvc' : IsB w2 vc (seg b xs[i].start xs[i].stop) := hvc
      have hsl := seg_len b xs[i].start xs[i].stop a0 a1 a2
      rw [← a3] at hvc' hsl
      have hltI : (i : Int) < xs.length := by omega
      have HSN := Lib.hid hsl
      have hple : (ps.getD i []).length ≤ 90000 := by omega
      obtain ⟨Ac, kc, rfl⟩ := isB_slice hvc'
      have HVC := Lib.hid hvc'
      have HNXi := Lib.hid (fun h => HNX.out i hlt h)
      clear hc2 hvc hvc' hsl has how hal hbel a3
      generalize hyi : ps.getD i [] = y at *
      have HYI := Lib.hid hyi
      clear hyi
      generalize xs[i] = x at *
      obtain ⟨xc, xn, xk, xs', xb, xe⟩ := x
      simp only at p0 p1 p2 p3 p4 p5 a0 a1 a2 hcut
      have HX3 := Lib.hid (Blk.new wr 76 #[.int .i64 xc, .int .i64 xn, .bool xk, .int .i64 xs', .int .i64 xb, .int .i64 xe])
      have HK3 := Lib.hid (HKR.out.alloc (.cells #[.int .i64 xc, .int .i64 xn, .bool xk, .int .i64 xs', .int .i64 xb, .int .i64 xe] 76))
      have HB3 := Lib.hid (HBR.out.alloc hsz (.cells #[.int .i64 xc, .int .i64 xn, .bool xk, .int .i64 xs', .int .i64 xb, .int .i64 xe] 76))
      have HC3 := Lib.hid (HB2.out.trans (HB3.out.mono (Nat.le_of_lt hw2)))
      have HOW3 := Lib.hid (HOW.out.alloc (.cells #[.int .i64 xc, .int .i64 xn, .bool xk, .int .i64 xs', .int .i64 xb, .int .i64 xe] 76))
      have hz3 : w2.heap.size ≤ wr.heap.size + 1 := by omega
      cases hpx : parR y with
      | none =>
        have HPX := Lib.hid (show ∀ W, Glo W → IsB W (.slice Ac y.length kc) y → Calls Tryz.prog 25 #[.slice Ac y.length kc] W (RetPR none y.length W) from fun W g h => by have := HAP.out _ y W g h hple; rwa [hpx] at this)
        obtain rfl := HNXi.out hpx
        unfold RetPR at HPX
        simp only [errV] at HPX
        clear hpx
        go_wp2_with (((go_at_call 25); (with_reducible refine (HPX.out _ (HG.out.below HC3.out) (HVC.out.below HB3.out)).mono ?_); rintro e w4 ⟨hbw4, ec, eo, h1, h2, h3, rfl⟩; have hn : (ec == 0) = false := beq_eq_false_iff_ne.2 (by omega); have hn' : (ec != 0) = true := (by simp; omega); have X4 := HX3.out.call hbw4; have qX4 := X4.q; have lX4 := X4.lt; have K4 := HK3.out.call hbw4; have qK4 := K4.q; have fK4 := K4.fz; have lK4 := K4.lt; have HC4 := Lib.hid (HC3.out.trans (hbw4.mono HC3.out.size)); have HER := Lib.hid (And.intro h1 (And.intro h2 h3)); have hsn := HSN.out; (try simp only at hsn); have HEL := Lib.hid (show xs' + eo ≤ b.length by omega); have hws : IntKind.i64.wrap (xs' + eo) = xs' + eo := (by rw [IntKind.wrap_i64]; omega); clear X4 K4 hbw4))
        go_region
        all_goals
          go_wp2
          refine bodyPost_ret (v := .tuple #[.slice none 0 0, errV (ec, xs' + eo)]) (by simp only [results, Tryz.results36]; go_simp) rfl ?_
          have s1 := HC4.out.size
          have b1 := HC4.out
          exact ⟨by ((repeat' (first | (with_reducible exact Below.refl _ _) | (with_reducible assumption) | (with_reducible refine Below.setCell ?_ ?_ _) | (with_reducible refine Below.alloc ?_ ?_ _) | (with_reducible refine Below.drew ?_) | (with_reducible refine below_drewN ?_ _) | (with_reducible refine Below.step (by with_reducible assumption) ?_ ?_))) <;> (first | omega | (simp; done) | (simp; omega))), ec, xs' + eo, HER.out.1, by have := HER.out; omega, HEL.out, rfl⟩
      | some r =>
        have HPX := Lib.hid (show ∀ W, Glo W → IsB W (.slice Ac y.length kc) y → Calls Tryz.prog 25 #[.slice Ac y.length kc] W (RetPR (some r) y.length W) from fun W g h => by have := HAP.out _ y W g h hple; rwa [hpx] at this)
        unfold RetPR at HPX
        simp only [errV] at HPX
        have HPXa := Lib.hid hpx
        clear hpx
        generalize hrl : r.length = rl at *
        have HRL := Lib.hid hrl
        clear hrl
        go_wp2_with (first | ((go_at_call 25); (with_reducible refine (HPX.out _ (HG.out.below HC3.out) (HVC.out.below HB3.out)).mono ?_); rintro e w4 ⟨hbw4, A4, k4, rfl, ho4⟩; have HB4 := Lib.hid ((HB3.out.trans (hbw4.mono (by simpa using hz3))).alloc (by have := hbw4.size; simp at this; omega) (.cells #[.int .i64 0, .int .i64 0] 38)); have HOW4 := Lib.hid ((HOW3.out.below hbw4).alloc (.cells #[.int .i64 0, .int .i64 0] 38)); have HV4 := Lib.hid (ho4.isL.alloc (.cells #[.int .i64 0, .int .i64 0] 38)); clear hbw4 ho4) | (at_builtin; refine wpList_appL (r := repL repA) (X := fun _ => True) _ rfl _ _ 23 rfl w2.heap.size 30 ulNam hj0 hy0 hy1 hy2 rfl (by decide) _ nm rfl (HOW4.out.alloc _) _ [.slice A4 rl k4] r rfl (isR_at rfl (by simp)) ⟨_, rfl, ?e1⟩ ?m1 ?m2 trivial ?_))
        case e1 => exact (HV4.out.weak fun b hb hS => ⟨⟨by have := hS.1; simp at this; omega, HOW3.out.notNew hS.1⟩, trivial⟩).alloc _
        case m1 => have := HAL.out; omega
        case m2 => have := HB4.out.size; simp at this; simp; omega
        intro v8 w8 ho8 hb8 hg8
        have HO8 := Lib.hid ho8
        have HB8 := Lib.hid ((HB4.out.alloc HB4.out.size (.cells #[.slice A4 rl k4] 30)).trans hb8)
        clear ho8 hb8 hg8
        go_wp2
        go_roundw
        case rel =>
          refine ⟨i + 1, nm ++ [r], by go_num, by omega, by simp [HAL.out], fun j hj => ?_, HO8.out, HB8.out⟩
          have hal := HAL.out
          by_cases hji : j < nm.length
          · rw [List.getElem_append_left hji]; exact HAS.out j hji
          · have hje : j = nm.length := by simp at hj; omega
            subst hje
            have e : ps.getD nm.length [] = y := by rw [hal]; exact HYI.out
            rw [List.getElem_append_right (Nat.le_refl _), e]
            simpa using HPXa.out
        case measure => simp [intOf]; omega
    · have hie : i = xs.length := by omega
      have hge : (xs.length : Int) ≤ i := by omega
      obtain rfl := HYS.out nm (by omega) has
      have qK := HKR.out.q
      have fK := HKR.out.fz
      obtain ⟨Ao, ko, rfl⟩ := how.slice
      clear has how hbel hlt hi
      go_wp2_with fail
      refine bodyPost_ret (v := .tuple #[.slice Ao nm.length ko, errV (0, 0)]) (by simp only [results, Tryz.results36]; go_simp) rfl ?_
      have s1 := HCU.out.size
      have b1 := HCU.out
      refine ⟨by ((repeat' (first | (with_reducible exact Below.refl _ _) | (with_reducible assumption) | (with_reducible refine Below.setCell ?_ ?_ _) | (with_reducible refine Below.alloc ?_ ?_ _) | (with_reducible refine Below.drew ?_) | (with_reducible refine below_drewN ?_ _) | (with_reducible refine Below.step (by with_reducible assumption) ?_ ?_))) <;> (first | omega | (simp; done) | (simp; omega))), Ao, ko, rfl, ?_⟩
      exact ((HOW.out.setLow (p := ⟨w.heap.size, 0, none⟩) hw2 _).setLow (p := ⟨w.heap.size, 1, none⟩) hw2 _).more (Nat.le_of_lt hw2)
theorem dnParse (v : Value) (b : List UInt8) (w : World) (hG : Glo w) (hv : IsB w v b) (hL : b.length ≤ 90000) : Calls Tryz.prog 36 #[v] w (RetPNm (parNm b) b.length w) := by
  cases hp : partsE b 0 16 with
  | error er =>
    obtain ⟨ec, eo⟩ := er
    have : parNm b = none := by unfold parNm; rw [hp]
    rw [this]
    exact pn_err v b w ec eo hv hL hp
  | ok xs => exact pn_loop v b xs w hG hv hL hp
end Go.Proofs.YtlmnmgokfnnbbaaGreatDoor
end

/- Walks over the reference's ReadRDN and Read. -/
section
set_option linter.unusedSimpArgs false
set_option linter.unusedVariables false
namespace Go.Proofs.YtlmnmgokfnnbbaaGreatDoor
open Go.RowKit Go.Cr
theorem rAttReadV {d : Nat} {nv : Value} {l : List UInt8} {w : World} (h : NdV (d + 1 + 1) w nv l) (hL : l.length ≤ 4000) : ∀ W, Below w.heap.size w W → Calls Tryz.prog 100 #[nv] W (RetAt (rdA (kidsT (d + 1) l)).1 (rdA (kidsT (d + 1) l)).2 W) := by
  obtain ⟨n0, hn0, hk0⟩ := rKid h 0
  have hc := (kidsT_cnt (d + 1) l).2
  have hg := getD_len (kidsT (d + 1) l) 0
  have hR := rRdObj hn0 (by omega)
  have hO := rOcts h (by omega)
  obtain ⟨c1, c2, c3, a4, a5, n4, k4, n5, k5, rfl⟩ := h.shape
  obtain ⟨x1, x2, x3, y4, y5, m4, z4, m5, z5, rfl⟩ := hn0.shape
  intro W hW
  exact rAttRead_step c1 c2 c3 a4 a5 n4 k4 n5 k5 x1 x2 x3 y4 y5 m4 z4 m5 z5 _ _ W (fun W' hb => hk0 W' (hW.trans (hb.mono hW.size))) (fun W' hb => hR W' (hW.trans (hb.mono hW.size))) (fun W' hb => hO W' (hW.trans (hb.mono hW.size)))
def RetRr (r : Rdn) (w : World) (e : Ending) (w' : World) : Prop := ∃ A k, e = .returned (.slice A r.length k) ∧ OwL repA (fun _ => True) w' w.heap.size 58 (.slice A r.length k) r ∧ Below w.heap.size w w'
def RrRel (ks : List (List UInt8)) (d : Nat) (w : World) (out ix : Value) (wr : World) : Prop := ∃ i : Nat, ix = .int .i64 (i : Int) ∧ i ≤ ks.length ∧ OwL repA (fun _ => True) wr w.heap.size 58 out ((ks.take i).map (rdX d)) ∧ Below w.heap.size w wr
set_option maxRecDepth 100000 in
set_option maxHeartbeats 8000000 in
theorem rReadRDN {d : Nat} (nv : Value) (l : List UInt8) (w : World) (hn : NdV (d + 1 + 1 + 1) w nv l) (hL : l.length ≤ 4000) : Calls Tryz.prog 62 #[nv] w (RetRr ((kidsT (d + 1 + 1) l).map (rdX (d + 1))) w) := by
  obtain ⟨c1, c2, c3, a4, a5, n4, k4, k5, rfl, ⟨xs, hrow⟩, hk⟩ := hn.row
  have hcnt := kidsT_cnt (d + 1 + 1) l
  have hfl : ∀ i, ((kidsT (d + 1 + 1) l).getD i []).length ≤ 4000 := fun i => by
    have := getD_len (kidsT (d + 1 + 1) l) i
    omega
  have hlen := hrow.len (P := Tryz.prog) ulNodes
  have hcl : (kidsT (d + 1 + 1) l).length ≤ 4000 := by omega
  have HK := Lib.hid hk
  have HFL := Lib.hid hfl
  clear hk hfl hn hrow hL hcnt
  generalize kidsT (d + 1 + 1) l = ks at *
  have hnI : (ks.length : Int) ≤ 4000 := by omega
  go_enter Tryz.func62, Tryz.ntmps62
  go_wp2_with fail
  have HB0 := Lib.hid (Blk.new w 85 #[.int .i64 c1, .int .i64 c2, .bool c3, .slice a4 n4 k4, .slice a5 ks.length k5])
  have HW0 := Lib.hid ((Below.refl w.heap.size w).alloc (Nat.le_refl _) (.cells #[.int .i64 c1, .int .i64 c2, .bool c3, .slice a4 n4 k4, .slice a5 ks.length k5] 85))
  have lW0 := HB0.out.lt
  generalize w.alloc (.cells #[.int .i64 c1, .int .i64 c2, .bool c3, .slice a4 n4 k4, .slice a5 ks.length k5] 85) = w0 at *
  obtain ⟨i0, hi0, hz0, hz1, hz2⟩ := info_parts infoAtt
  go_loopw [3, 4] (fun out ix wr => RrRel ks (d + 1) w0 out ix wr) (fun _ ix _ => ks.length + 1 - (intOf ix).toNat)
  case atStart => exact ⟨0, rfl, Nat.zero_le _, OwL.nil_ _ _ _ _, Below.refl _ _⟩
  case round =>
    obtain ⟨i, rfl, hi, how, hbel⟩ := hrel
    have HOW := Lib.hid how
    have HBR := Lib.hid hbel
    have hszr := hbel.size
    have JB := HB0.out.below hbel lW0
    have qJ : wr.cell? ⟨w.heap.size, 4, none⟩ = some (.slice a5 ks.length k5) := (JB.q 4).trans rfl
    clear how JB
    by_cases hlt : i < ks.length
    · obtain ⟨b, o, x1, x2, x3, y4, y5, m4, z4, m5, z5, hi2, hl2, d0, d1, d2, d3, d4, hkv⟩ := HK.out i hlt
      have hwr : Below w.heap.size w wr := HW0.out.trans (hbel.mono (Nat.le_of_lt lW0))
      have hlk : ks[i].length ≤ 4000 := by have := HFL.out i; rwa [show ks.getD i [] = ks[i] by simp [hlt]] at this
      have HR := Lib.hid (rAttReadV hkv hlk wr hwr)
      have htk : (ks.take (i + 1)).map (rdX (d + 1)) = (ks.take i).map (rdX (d + 1)) ++ [rdX (d + 1) ks[i]] := by rw [List.take_succ_eq_append_getElem hlt, List.map_append]; rfl
      have hrd : rdX (d + 1) ks[i] = (bStr (rdA (kidsT (d + 1) ks[i])).1, (rdA (kidsT (d + 1) ks[i])).2) := rfl
      rw [hrd] at htk
      obtain ⟨ss, hss⟩ : ∃ ss, (rdA (kidsT (d + 1) ks[i])).1 = ss := ⟨_, rfl⟩
      obtain ⟨ll, hll⟩ : ∃ ll, (rdA (kidsT (d + 1) ks[i])).2 = ll := ⟨_, rfl⟩
      rw [hss, hll] at htk HR
      unfold RetAt at HR
      have HTK := Lib.hid htk
      have hltI : (i : Int) < ks.length := by omega
      have hllen : ((ks.take i).map (rdX (d + 1))).length ≤ 4000 := by rw [List.length_map, List.length_take]; omega
      have HLL := Lib.hid hllen
      have g0 := (hwr.cell (p := ⟨b, o, none⟩) hl2).trans d0
      have g1 := (hwr.cell (p := ⟨b, o + 1, none⟩) hl2).trans d1
      have g2 := (hwr.cell (p := ⟨b, o + 2, none⟩) hl2).trans d2
      have g3 := (hwr.cell (p := ⟨b, o + 3, none⟩) hl2).trans d3
      have g4 := (hwr.cell (p := ⟨b, o + 4, none⟩) hl2).trans d4
      clear hkv d0 d1 d2 d3 d4 hbel htk hrd hllen hlk hwr hss hll
      generalize (ks.take i).map (rdX (d + 1)) = LL at *
      go_wp2_with (first | ((go_at_call 100); (with_reducible refine HR.out.mono ?_); rintro e w4 ⟨A4, k4', rfl, ho4, hbw4⟩; have HV4 := Lib.hid ((IsRS.of_own ho4).weak (S' := fun b => wr.heap.size ≤ b) (fun b _ hS => hS)); have HB4 := Lib.hid (HBR.out.trans (hbw4.mono hszr)); have HOW4 := Lib.hid (HOW.out.below hbw4); clear hbw4 ho4) | (at_builtin; refine wpList_appL (r := repA) (X := fun _ => True) _ rfl _ _ 30 rfl w0.heap.size 58 ulRdn hi0 hz0 hz1 hz2 rfl (by decide) _ LL rfl (HOW4.out.alloc _) _ [.string (bStr ss), .slice A4 ll.length k4'] (bStr ss, ll) rfl (isR_at rfl rfl) ⟨_, rfl, ?e1⟩ ?m1 ?m2 trivial ?_))
      case e1 => exact (HV4.out.alloc _).weak fun b hb hS => by first | exact ⟨⟨Nat.le_trans hszr hS, HOW.out.notNew hS⟩, trivial⟩ | exact ⟨Nat.le_trans hszr hS, HOW.out.notNew hS⟩
      case m1 => have := HLL.out; omega
      case m2 => have := HB4.out.size; simp; omega
      intro v8 w8 ho8 hb8 hg8
      have HO8 := Lib.hid ho8
      have HB8 := Lib.hid ((HB4.out.alloc HB4.out.size (.cells #[.string (bStr ss), .slice A4 ll.length k4'] 58)).trans hb8)
      clear ho8 hb8 hg8
      go_wp2
      go_roundw
      case rel => exact ⟨i + 1, by go_num, by omega, by rw [HTK.out]; exact HO8.out, HB8.out⟩
      case measure => simp [intOf]; omega
    · have hie : i = ks.length := by omega
      have how := HOW.out
      rw [hie, List.take_length] at how
      have HO := Lib.hid how
      have hge : (ks.length : Int) ≤ i := by omega
      obtain ⟨Ao, ko, hoe⟩ := how.slice
      rw [List.length_map] at hoe
      subst hoe
      clear how hie hlt hi hbel
      go_wp2_with fail
      go_ret
      have s0 := HW0.out.size
      refine ⟨Ao, ko, (by rw [List.length_map]; first | rfl | simp), ?_, HW0.out.trans (HBR.out.mono s0)⟩
      rw [List.length_map]
      exact HO.out.more s0
def RetRn (n : Nam) (w : World) (e : Ending) (w' : World) : Prop := ∃ A k, e = .returned (.slice A n.length k) ∧ OwL (repL repA) (fun _ => True) w' w.heap.size 30 (.slice A n.length k) n ∧ Below w.heap.size w w'
def RnRel (ks : List (List UInt8)) (f : List UInt8 → Rdn) (w : World) (out ix : Value) (wr : World) : Prop := ∃ i : Nat, ix = .int .i64 (i : Int) ∧ i ≤ ks.length ∧ OwL (repL repA) (fun _ => True) wr w.heap.size 30 out ((ks.take i).map f) ∧ Below w.heap.size w wr
set_option maxRecDepth 100000 in
set_option maxHeartbeats 8000000 in
theorem rReadNm {d : Nat} (nv : Value) (l : List UInt8) (w : World) (hn : NdV (d + 1 + 1 + 1 + 1) w nv l) (hL : l.length ≤ 4000) : Calls Tryz.prog 64 #[nv] w (RetRn ((kidsT (d + 1 + 1 + 1) l).map (fun k => (kidsT (d + 1 + 1) k).map (rdX (d + 1)))) w) := by
  obtain ⟨c1, c2, c3, a4, a5, n4, k4, k5, rfl, ⟨xs, hrow⟩, hk⟩ := hn.row
  have hcnt := kidsT_cnt (d + 1 + 1 + 1) l
  have hfl : ∀ i, ((kidsT (d + 1 + 1 + 1) l).getD i []).length ≤ 4000 := fun i => by
    have := getD_len (kidsT (d + 1 + 1 + 1) l) i
    omega
  have hlen := hrow.len (P := Tryz.prog) ulNodes
  have hcl : (kidsT (d + 1 + 1 + 1) l).length ≤ 4000 := by omega
  have HK := Lib.hid hk
  have HFL := Lib.hid hfl
  clear hk hfl hn hrow hL hcnt
  generalize kidsT (d + 1 + 1 + 1) l = ks at *
  obtain ⟨F, hF⟩ : ∃ F : List UInt8 → Rdn, (fun k => (kidsT (d + 1 + 1) k).map (rdX (d + 1))) = F := ⟨_, rfl⟩
  rw [hF]
  have HF : Hid (∀ k, (kidsT (d + 1 + 1) k).map (rdX (d + 1)) = F k) := Lib.hid (fun k => by rw [← hF])
  clear hF
  have hnI : (ks.length : Int) ≤ 4000 := by omega
  go_enter Tryz.func64, Tryz.ntmps64
  go_wp2_with fail
  have HB0 := Lib.hid (Blk.new w 85 #[.int .i64 c1, .int .i64 c2, .bool c3, .slice a4 n4 k4, .slice a5 ks.length k5])
  have HW0 := Lib.hid ((Below.refl w.heap.size w).alloc (Nat.le_refl _) (.cells #[.int .i64 c1, .int .i64 c2, .bool c3, .slice a4 n4 k4, .slice a5 ks.length k5] 85))
  have lW0 := HB0.out.lt
  generalize w.alloc (.cells #[.int .i64 c1, .int .i64 c2, .bool c3, .slice a4 n4 k4, .slice a5 ks.length k5] 85) = w0 at *
  obtain ⟨i0, hi0, hz0, hz1, hz2⟩ := info_parts infoRdn
  go_loopw [3, 4] (fun out ix wr => RnRel ks F w0 out ix wr) (fun _ ix _ => ks.length + 1 - (intOf ix).toNat)
  case atStart => exact ⟨0, rfl, Nat.zero_le _, OwL.nil_ _ _ _ _, Below.refl _ _⟩
  case round =>
    obtain ⟨i, rfl, hi, how, hbel⟩ := hrel
    have HOW := Lib.hid how
    have HBR := Lib.hid hbel
    have hszr := hbel.size
    have JB := HB0.out.below hbel lW0
    have qJ : wr.cell? ⟨w.heap.size, 4, none⟩ = some (.slice a5 ks.length k5) := (JB.q 4).trans rfl
    clear how JB
    by_cases hlt : i < ks.length
    · obtain ⟨b, o, x1, x2, x3, y4, y5, m4, z4, m5, z5, hi2, hl2, d0, d1, d2, d3, d4, hkv⟩ := HK.out i hlt
      have hwr : Below w.heap.size w wr := HW0.out.trans (hbel.mono (Nat.le_of_lt lW0))
      have hlk : ks[i].length ≤ 4000 := by have := HFL.out i; rwa [show ks.getD i [] = ks[i] by simp [hlt]] at this
      have HR := Lib.hid (rReadRDN _ _ wr (hkv.below hwr) hlk)
      rw [HF.out] at HR
      have htk : (ks.take (i + 1)).map F = (ks.take i).map F ++ [F ks[i]] := by rw [List.take_succ_eq_append_getElem hlt, List.map_append]; rfl
      generalize F ks[i] = r at *
      unfold RetRr at HR
      have HTK := Lib.hid htk
      have hltI : (i : Int) < ks.length := by omega
      have hllen : ((ks.take i).map F).length ≤ 4000 := by rw [List.length_map, List.length_take]; omega
      have HLL := Lib.hid hllen
      have g0 := (hwr.cell (p := ⟨b, o, none⟩) hl2).trans d0
      have g1 := (hwr.cell (p := ⟨b, o + 1, none⟩) hl2).trans d1
      have g2 := (hwr.cell (p := ⟨b, o + 2, none⟩) hl2).trans d2
      have g3 := (hwr.cell (p := ⟨b, o + 3, none⟩) hl2).trans d3
      have g4 := (hwr.cell (p := ⟨b, o + 4, none⟩) hl2).trans d4
      clear hkv d0 d1 d2 d3 d4 hbel htk hllen hlk hwr
      generalize (ks.take i).map F = LL at *
      go_wp2_with (first | ((go_at_call 62); (with_reducible refine HR.out.mono ?_); rintro e w4 ⟨A4, k4', rfl, ho4, hbw4⟩; have HV4 := Lib.hid ho4.isL; have HB4 := Lib.hid (HBR.out.trans (hbw4.mono hszr)); have HOW4 := Lib.hid (HOW.out.below hbw4); clear hbw4 ho4) | (at_builtin; refine wpList_appL (r := repL repA) (X := fun _ => True) _ rfl _ _ 23 rfl w0.heap.size 30 ulNam hi0 hz0 hz1 hz2 rfl (by decide) _ LL rfl (HOW4.out.alloc _) _ [.slice A4 r.length k4'] r rfl (isR_at rfl rfl) ⟨_, rfl, ?e1⟩ ?m1 ?m2 trivial ?_))
      case e1 => exact (HV4.out.weak fun b hb hS => ⟨⟨by have := hS.1; omega, HOW.out.notNew hS.1⟩, trivial⟩).alloc _
      case m1 => have := HLL.out; omega
      case m2 => have := HB4.out.size; simp; omega
      intro v8 w8 ho8 hb8 hg8
      have HO8 := Lib.hid ho8
      have HB8 := Lib.hid ((HB4.out.alloc HB4.out.size (.cells #[.slice A4 r.length k4'] 30)).trans hb8)
      clear ho8 hb8 hg8
      go_wp2
      go_roundw
      case rel => exact ⟨i + 1, by go_num, by omega, by rw [HTK.out]; exact HO8.out, HB8.out⟩
      case measure => simp [intOf]; omega
    · have hie : i = ks.length := by omega
      have how := HOW.out
      rw [hie, List.take_length] at how
      have HO := Lib.hid how
      have hge : (ks.length : Int) ≤ i := by omega
      obtain ⟨Ao, ko, hoe⟩ := how.slice
      rw [List.length_map] at hoe
      subst hoe
      clear how hie hlt hi hbel
      go_wp2_with fail
      go_ret
      have s0 := HW0.out.size
      refine ⟨Ao, ko, (by rw [List.length_map]; first | rfl | simp), ?_, HW0.out.trans (HBR.out.mono s0)⟩
      rw [List.length_map]
      exact HO.out.more s0
end Go.Proofs.YtlmnmgokfnnbbaaGreatDoor
end

/- Walks over the reference's ParseRDN and Parse; how great what is read can be. -/
section
set_option linter.unusedSimpArgs false
set_option linter.unusedVariables false
namespace Go.Proofs.YtlmnmgokfnnbbaaGreatDoor
open Go.RowKit Go.Cr
theorem encO_leD (c n : Int) (k : Bool) (l : List UInt8) : (encO c k n l).length ≤ l.length + 10 := by
  rw [encO_len]
  have := (lenOct_len l.length).2
  omega
theorem marX_le {a : At} {y : List UInt8} (h : marX a = some y) : ∃ c, oidE a.1.data.toList = some c ∧ y.length ≤ c.length + a.2.length + 20 := by
  obtain ⟨c, hc, _, hb⟩ := marA_some h
  refine ⟨c, hc, ?_⟩
  have h1 := encO_leD 0 16 true (encO 0 false 6 c ++ a.2)
  have h2 := encO_leD 0 6 false c
  rw [List.length_append] at h1
  rw [hb]
  omega
theorem rdX_le {d : Nat} {k y : List UInt8} (h : marX (rdX d k) = some y) : y.length ≤ 2 * k.length + 25 := by
  obtain ⟨c, hc, hy⟩ := marX_le h
  have hf := (kidsT_cnt d k).2
  have g0 := getD_len (kidsT d k) 0
  have g1 := getD_len (kidsT d k) 1
  have hk := kidC_len ((kidsT d k).getD 0 [])
  have e1 : (rdX d k).1.data.toList = ((oidD (kidC ((kidsT d k).getD 0 []))).getD []) := bST_list _
  have e2 : (rdX d k).2 = (kidsT d k).getD 1 [] := rfl
  rw [e1] at hc
  rw [e2] at hy
  cases ho : oidD (kidC ((kidsT d k).getD 0 [])) with
  | none =>
    rw [ho] at hc
    have := oidE_len hc
    simp at this
    omega
  | some s =>
    rw [ho, Option.getD_some] at hc
    have h3 := (oid_iff _ _).1 ho
    rw [hc] at h3
    injection h3 with h3
    rw [h3] at hy
    omega
theorem rdX_sz (d : Nat) (k : List UInt8) : (rdX d k).1.size ≤ 21 * (k.length + 1) ∧ (rdX d k).2.length ≤ k.length := by
  have hf := (kidsT_cnt d k).2
  have g0 := getD_len (kidsT d k) 0
  have g1 := getD_len (kidsT d k) 1
  have hk := kidC_len ((kidsT d k).getD 0 [])
  have e0 : ∀ s : List UInt8, (bST s).size = s.length := fun s => by show s.toArray.size = _; simp
  have e1 : (rdX d k).1.size = ((oidD (kidC ((kidsT d k).getD 0 []))).getD []).length := e0 _
  have e2 : (rdX d k).2 = (kidsT d k).getD 1 [] := rfl
  rw [e1, e2]
  refine ⟨?_, by omega⟩
  cases ho : oidD (kidC ((kidsT d k).getD 0 [])) with
  | none => simp
  | some s => have := oidD_len ho; simp only [Option.getD_some]; omega
theorem optL_flat {α : Type} {f : α → Option (List UInt8)} {h : List UInt8 → α} {a c : Nat} : ∀ {ks ps : List (List UInt8)}, optL f (ks.map h) = some ps → (∀ k ∈ ks, ∀ y, f (h k) = some y → y.length ≤ a * k.length + c) → ps.flatten.length ≤ a * ks.flatten.length + c * ks.length
  | [], ps, ho, _ => by injection ho with ho; subst ho; simp
  | x :: t, ps, ho, hb => by
    obtain ⟨b, u, h1, h2, rfl⟩ := optL_cons ho
    have h3 := hb x (by simp) b h1
    have h4 := optL_flat h2 fun k hk => hb k (by simp [hk])
    simp only [List.flatten_cons, List.length_append, List.length_cons, Nat.mul_add] at *
    omega
theorem szR_kids (d : Nat) {ks : List (List UInt8)} (h1 : ks.length ≤ 4000) (h2 : ks.flatten.length ≤ 4000) : SzR (ks.map (rdX d)) := by
  refine ⟨by rw [List.length_map]; omega, fun a ha => ?_, fun ps hp => ?_⟩
  · obtain ⟨k, hk, rfl⟩ := List.mem_map.1 ha
    have h3 := mem_flat_len hk
    have h4 := rdX_sz d k
    omega
  · have := optL_flat (a := 2) (c := 25) hp fun k _ y hy => rdX_le hy
    omega
theorem marR_kids_le (d : Nat) {ks : List (List UInt8)} {y : List UInt8} (h : marR (ks.map (rdX d)) = some y) : y.length ≤ 2 * ks.flatten.length + 25 * ks.length + 10 := by
  obtain ⟨ps, hp, _, _, rfl⟩ := marR_some h
  have h1 := optL_flat (a := 2) (c := 25) hp fun k _ y hy => rdX_le hy
  have h2 := encO_leD 0 17 true ps.flatten
  unfold conB
  omega
theorem szN_kids (d : Nat) {ks : List (List UInt8)} (h1 : ks.length ≤ 4000) (h2 : ks.flatten.length ≤ 4000) : SzNm (ks.map fun k => (kidsT d k).map (rdX (d - 1))) := by
  refine ⟨by rw [List.length_map]; omega, fun r hr => ?_, fun ps hp => ?_⟩
  · obtain ⟨k, hk, rfl⟩ := List.mem_map.1 hr
    have h3 := mem_flat_len hk
    have h4 := kidsT_cnt d k
    exact szR_kids _ (by omega) (by omega)
  · have := optL_flat (a := 27) (c := 10) hp fun k _ y hy => by
      have h5 := marR_kids_le _ hy
      have h4 := kidsT_cnt d k
      omega
    omega
theorem szR_rd {b : List UInt8} (hL : b.length ≤ 4000) : SzR (rdR0 b) := by
  have h := kidsA_cnt b
  exact szR_kids 58 (by omega) (by omega)
theorem szN_rd {b : List UInt8} (hL : b.length ≤ 4000) : SzNm (rdN0 b) := by
  have h := kidsA_cnt b
  exact szN_kids 58 (by omega) (by omega)

def RetDr (r : Option Rdn) (w : World) (e : Ending) (w' : World) : Prop := Below w.heap.size w w' ∧ match r with
  | none => e = .returned (.tuple #[.slice none 0 0, .bool false])
  | some r => ∃ A k, e = .returned (.tuple #[.slice A r.length k, .bool true]) ∧ IsQs w' (.slice A r.length k) r
def RetDn (r : Option Nam) (w : World) (e : Ending) (w' : World) : Prop := Below w.heap.size w w' ∧ match r with
  | none => e = .returned (.tuple #[.slice none 0 0, .bool false])
  | some r => ∃ A k, e = .returned (.tuple #[.slice A r.length k, .bool true]) ∧ IsNm w' (.slice A r.length k) r
def RetDDr (r : Rdn) (w : World) (e : Ending) (w' : World) : Prop := Below w.heap.size w w' ∧ ∃ (c1 c2 : Int) (c3 : Bool) (a4 a5 : Option Addr) (n4 k4 n5 k5 : Nat) (t : Bool),
  e = .returned (.tuple #[.agg #[.int .i64 c1, .int .i64 c2, .bool c3, .slice a4 n4 k4, .slice a5 n5 k5], .bool t]) ∧
    ∀ W, Below w'.heap.size w' W → Calls Tryz.prog 62 #[.agg #[.int .i64 c1, .int .i64 c2, .bool c3, .slice a4 n4 k4, .slice a5 n5 k5]] W (RetRr r W)
def RetDDn (r : Nam) (w : World) (e : Ending) (w' : World) : Prop := Below w.heap.size w w' ∧ ∃ (c1 c2 : Int) (c3 : Bool) (a4 a5 : Option Addr) (n4 k4 n5 k5 : Nat) (t : Bool),
  e = .returned (.tuple #[.agg #[.int .i64 c1, .int .i64 c2, .bool c3, .slice a4 n4 k4, .slice a5 n5 k5], .bool t]) ∧
    ∀ W, Below w'.heap.size w' W → Calls Tryz.prog 64 #[.agg #[.int .i64 c1, .int .i64 c2, .bool c3, .slice a4 n4 k4, .slice a5 n5 k5]] W (RetRn r W)
theorem rDeepDr (v : Value) (b : List UInt8) (w : World) (hv : IsB w v b) (hL : b.length ≤ 4000) : Calls Tryz.prog 61 #[v] w (RetDDr (rdR0 b) w) := by
  refine (rDeepV v b w hv (by omega)).mono fun e w' ⟨nv, t, he, hn, hb⟩ => ?_
  obtain ⟨c1, c2, c3, a4, a5, n4, k4, n5, k5, hs⟩ := hn.shape
  subst hs
  refine ⟨hb, c1, c2, c3, a4, a5, n4, k4, n5, k5, t, he, fun W hW => ?_⟩
  have := rReadRDN (d := 57) _ _ W (hn.below hW) (by split; exact hL; simp)
  rw [kidsA_eq] at this
  exact this
theorem rDeepDn (v : Value) (b : List UInt8) (w : World) (hv : IsB w v b) (hL : b.length ≤ 4000) : Calls Tryz.prog 61 #[v] w (RetDDn (rdN0 b) w) := by
  refine (rDeepV v b w hv (by omega)).mono fun e w' ⟨nv, t, he, hn, hb⟩ => ?_
  obtain ⟨c1, c2, c3, a4, a5, n4, k4, n5, k5, hs⟩ := hn.shape
  subst hs
  refine ⟨hb, c1, c2, c3, a4, a5, n4, k4, n5, k5, t, he, fun W hW => ?_⟩
  have := rReadNm (d := 56) _ _ W (hn.below hW) (by split; exact hL; simp)
  rw [kidsA_eq] at this
  exact this
set_option maxRecDepth 100000 in
set_option maxHeartbeats 8000000 in
theorem rParR (v : Value) (b : List UInt8) (w : World) (hv : IsB w v b) (hL : b.length ≤ 4000) : Calls Tryz.prog 32 #[v] w (RetDr (rparR b) w) := by
  have HD := Lib.hid (fun W (h : IsB W v b) => rDeepDr v b W h hL)
  unfold RetDDr at HD
  have HV := Lib.hid hv
  have hz := szR_rd hL
  have hp : rparR b = if marR (rdR0 b) = some b then some (rdR0 b) else none := rfl
  rw [hp]
  have HBy := Lib.hid (fun W u x (h : IsB W u x) (h2 : IsB W v b) => bytes_any u v x b W h h2)
  generalize rdR0 b = ms at *
  have HM0 := Lib.hid (fun W u (h : IsQs W u ms) => rMarshalRDN u ms W h hz)
  cases hm : marR ms with
  | none =>
    rw [if_neg (by simp)]
    have HM : Hid (∀ W u, IsQs W u ms → Calls Tryz.prog 29 #[u] W (RetB (.tuple #[.slice none 0 0, .int .i64 8]) W)) := fun W u h => (HM0.out W u h).mono fun e w' hh => by rw [hm] at hh; exact hh.no
    obtain ⟨A, k, rfl⟩ := isB_slice hv
    clear hv hL hz hp hm HBy HM0
    go_enter Tryz.func32, Tryz.ntmps32
    go_wp2_with (first | ((go_at_call 61); (with_reducible refine (HD.out _ HV.out).mono ?_); rintro e w1 ⟨hbw1, c1, c2, c3, a4, a5, n4, k4, n5, k5, t, rfl, hrd⟩; have HRD := Lib.hid hrd; have HB1 := Lib.hid hbw1; clear hrd hbw1) | ((go_at_call 62); (with_reducible refine (HRD.out _ ((Below.refl _ w1).alloc (Nat.le_refl _) _)).mono ?_); rintro e w2 ⟨A2, k2, rfl, ho2, hbw2⟩; have HB2 := Lib.hid ((HB1.out.alloc HB1.out.size _).trans (hbw2.mono (by have := HB1.out.size; simp; omega))); have HO2 := Lib.hid (isAs_of ho2.isL); clear ho2 hbw2) | ((go_at_call 29); (with_reducible refine (HM.out _ _ HO2.out).mono ?_); rintro e w3 ⟨rfl, hbw3⟩; have HB3 := Lib.hid (HB2.out.trans (hbw3.mono HB2.out.size)); clear hbw3))
    go_ret2
    exact ⟨HB3.out, rfl⟩
  | some c =>
    have HM : Hid (∀ W u, IsQs W u ms → Calls Tryz.prog 29 #[u] W (RetOidY c W)) := fun W u h => (HM0.out W u h).mono fun e w' hh => by rw [hm] at hh; exact hh.yes
    clear HM0 hm
    by_cases hcb : c = b
    · rw [if_pos (by rw [hcb])]
      have HBt : Hid (∀ W u, IsB W u c → IsB W v b → Calls Tryz.prog 28 #[u, v] W (RetB (.bool true) W)) := fun W u h h2 => by
        have := HBy.out W u c h h2
        rwa [decide_eq_true hcb] at this
      obtain ⟨A, k, rfl⟩ := isB_slice hv
      clear hv hL hz hp HBy hcb
      go_enter Tryz.func32, Tryz.ntmps32
      go_wp2_with (first | ((go_at_call 61); (with_reducible refine (HD.out _ HV.out).mono ?_); rintro e w1 ⟨hbw1, c1, c2, c3, a4, a5, n4, k4, n5, k5, t, rfl, hrd⟩; have HRD := Lib.hid hrd; have HB1 := Lib.hid hbw1; clear hrd hbw1) | ((go_at_call 62); (with_reducible refine (HRD.out _ ((Below.refl _ w1).alloc (Nat.le_refl _) _)).mono ?_); rintro e w2 ⟨A2, k2, rfl, ho2, hbw2⟩; have HB2 := Lib.hid ((HB1.out.alloc HB1.out.size _).trans (hbw2.mono (by have := HB1.out.size; simp; omega))); have HO2 := Lib.hid (isAs_of ho2.isL); clear ho2 hbw2) | ((go_at_call 29); (with_reducible refine (HM.out _ _ HO2.out).mono ?_); rintro e w3 ⟨v3, rfl, ho3, hbw3⟩; obtain ⟨A3, k3, rfl⟩ := isB_slice ho3.isB; have HB3 := Lib.hid (HB2.out.trans (hbw3.mono HB2.out.size)); have HV3 := Lib.hid ho3.isB; have HO3 := Lib.hid (HO2.out.below hbw3); clear hbw3 ho3) | ((go_at_call 28); (with_reducible refine (HBt.out _ _ HV3.out (HV.out.below HB3.out)).mono ?_); rintro e w4 ⟨rfl, hbw4⟩; have HB4 := Lib.hid (HB3.out.trans (hbw4.mono HB3.out.size)); have HO4 := Lib.hid (HO3.out.below hbw4); clear hbw4))
      go_ret2
      exact ⟨HB4.out, A2, k2, rfl, HO4.out⟩
    · rw [if_neg (fun h => hcb (Option.some.inj h))]
      have HBf : Hid (∀ W u, IsB W u c → IsB W v b → Calls Tryz.prog 28 #[u, v] W (RetB (.bool false) W)) := fun W u h h2 => by
        have := HBy.out W u c h h2
        rwa [decide_eq_false hcb] at this
      obtain ⟨A, k, rfl⟩ := isB_slice hv
      clear hv hL hz hp HBy hcb
      go_enter Tryz.func32, Tryz.ntmps32
      go_wp2_with (first | ((go_at_call 61); (with_reducible refine (HD.out _ HV.out).mono ?_); rintro e w1 ⟨hbw1, c1, c2, c3, a4, a5, n4, k4, n5, k5, t, rfl, hrd⟩; have HRD := Lib.hid hrd; have HB1 := Lib.hid hbw1; clear hrd hbw1) | ((go_at_call 62); (with_reducible refine (HRD.out _ ((Below.refl _ w1).alloc (Nat.le_refl _) _)).mono ?_); rintro e w2 ⟨A2, k2, rfl, ho2, hbw2⟩; have HB2 := Lib.hid ((HB1.out.alloc HB1.out.size _).trans (hbw2.mono (by have := HB1.out.size; simp; omega))); have HO2 := Lib.hid (isAs_of ho2.isL); clear ho2 hbw2) | ((go_at_call 29); (with_reducible refine (HM.out _ _ HO2.out).mono ?_); rintro e w3 ⟨v3, rfl, ho3, hbw3⟩; obtain ⟨A3, k3, rfl⟩ := isB_slice ho3.isB; have HB3 := Lib.hid (HB2.out.trans (hbw3.mono HB2.out.size)); have HV3 := Lib.hid ho3.isB; have HO3 := Lib.hid (HO2.out.below hbw3); clear hbw3 ho3) | ((go_at_call 28); (with_reducible refine (HBf.out _ _ HV3.out (HV.out.below HB3.out)).mono ?_); rintro e w4 ⟨rfl, hbw4⟩; have HB4 := Lib.hid (HB3.out.trans (hbw4.mono HB3.out.size)); clear hbw4))
      go_ret2
      exact ⟨HB4.out, rfl⟩
set_option maxRecDepth 100000 in
set_option maxHeartbeats 8000000 in
theorem rParNm (v : Value) (b : List UInt8) (w : World) (hv : IsB w v b) (hL : b.length ≤ 4000) : Calls Tryz.prog 38 #[v] w (RetDn (rparNm b) w) := by
  have HD := Lib.hid (fun W (h : IsB W v b) => rDeepDn v b W h hL)
  unfold RetDDn at HD
  have HV := Lib.hid hv
  have hz := szN_rd hL
  have hp : rparNm b = if marNm (rdN0 b) = some b then some (rdN0 b) else none := rfl
  rw [hp]
  have HBy := Lib.hid (fun W u x (h : IsB W u x) (h2 : IsB W v b) => bytes_any u v x b W h h2)
  generalize rdN0 b = ms at *
  have HM0 := Lib.hid (fun W u (h : IsNm W u ms) => rMarshalNm u ms W h hz)
  cases hm : marNm ms with
  | none =>
    rw [if_neg (by simp)]
    have HM : Hid (∀ W u, IsNm W u ms → Calls Tryz.prog 34 #[u] W (RetB (.tuple #[.slice none 0 0, .int .i64 8]) W)) := fun W u h => (HM0.out W u h).mono fun e w' hh => by rw [hm] at hh; exact hh.no
    obtain ⟨A, k, rfl⟩ := isB_slice hv
    clear hv hL hz hp hm HBy HM0
    go_enter Tryz.func38, Tryz.ntmps38
    go_wp2_with (first | ((go_at_call 61); (with_reducible refine (HD.out _ HV.out).mono ?_); rintro e w1 ⟨hbw1, c1, c2, c3, a4, a5, n4, k4, n5, k5, t, rfl, hrd⟩; have HRD := Lib.hid hrd; have HB1 := Lib.hid hbw1; clear hrd hbw1) | ((go_at_call 64); (with_reducible refine (HRD.out _ ((Below.refl _ w1).alloc (Nat.le_refl _) _)).mono ?_); rintro e w2 ⟨A2, k2, rfl, ho2, hbw2⟩; have HB2 := Lib.hid ((HB1.out.alloc HB1.out.size _).trans (hbw2.mono (by have := HB1.out.size; simp; omega))); have HO2 := Lib.hid (isNm_of ho2.isL); clear ho2 hbw2) | ((go_at_call 34); (with_reducible refine (HM.out _ _ HO2.out).mono ?_); rintro e w3 ⟨rfl, hbw3⟩; have HB3 := Lib.hid (HB2.out.trans (hbw3.mono HB2.out.size)); clear hbw3))
    go_ret2
    exact ⟨HB3.out, rfl⟩
  | some c =>
    have HM : Hid (∀ W u, IsNm W u ms → Calls Tryz.prog 34 #[u] W (RetOidY c W)) := fun W u h => (HM0.out W u h).mono fun e w' hh => by rw [hm] at hh; exact hh.yes
    clear HM0 hm
    by_cases hcb : c = b
    · rw [if_pos (by rw [hcb])]
      have HBt : Hid (∀ W u, IsB W u c → IsB W v b → Calls Tryz.prog 28 #[u, v] W (RetB (.bool true) W)) := fun W u h h2 => by
        have := HBy.out W u c h h2
        rwa [decide_eq_true hcb] at this
      obtain ⟨A, k, rfl⟩ := isB_slice hv
      clear hv hL hz hp HBy hcb
      go_enter Tryz.func38, Tryz.ntmps38
      go_wp2_with (first | ((go_at_call 61); (with_reducible refine (HD.out _ HV.out).mono ?_); rintro e w1 ⟨hbw1, c1, c2, c3, a4, a5, n4, k4, n5, k5, t, rfl, hrd⟩; have HRD := Lib.hid hrd; have HB1 := Lib.hid hbw1; clear hrd hbw1) | ((go_at_call 64); (with_reducible refine (HRD.out _ ((Below.refl _ w1).alloc (Nat.le_refl _) _)).mono ?_); rintro e w2 ⟨A2, k2, rfl, ho2, hbw2⟩; have HB2 := Lib.hid ((HB1.out.alloc HB1.out.size _).trans (hbw2.mono (by have := HB1.out.size; simp; omega))); have HO2 := Lib.hid (isNm_of ho2.isL); clear ho2 hbw2) | ((go_at_call 34); (with_reducible refine (HM.out _ _ HO2.out).mono ?_); rintro e w3 ⟨v3, rfl, ho3, hbw3⟩; obtain ⟨A3, k3, rfl⟩ := isB_slice ho3.isB; have HB3 := Lib.hid (HB2.out.trans (hbw3.mono HB2.out.size)); have HV3 := Lib.hid ho3.isB; have HO3 := Lib.hid (HO2.out.below hbw3); clear hbw3 ho3) | ((go_at_call 28); (with_reducible refine (HBt.out _ _ HV3.out (HV.out.below HB3.out)).mono ?_); rintro e w4 ⟨rfl, hbw4⟩; have HB4 := Lib.hid (HB3.out.trans (hbw4.mono HB3.out.size)); have HO4 := Lib.hid (HO3.out.below hbw4); clear hbw4))
      go_ret2
      exact ⟨HB4.out, A2, k2, rfl, HO4.out⟩
    · rw [if_neg (fun h => hcb (Option.some.inj h))]
      have HBf : Hid (∀ W u, IsB W u c → IsB W v b → Calls Tryz.prog 28 #[u, v] W (RetB (.bool false) W)) := fun W u h h2 => by
        have := HBy.out W u c h h2
        rwa [decide_eq_false hcb] at this
      obtain ⟨A, k, rfl⟩ := isB_slice hv
      clear hv hL hz hp HBy hcb
      go_enter Tryz.func38, Tryz.ntmps38
      go_wp2_with (first | ((go_at_call 61); (with_reducible refine (HD.out _ HV.out).mono ?_); rintro e w1 ⟨hbw1, c1, c2, c3, a4, a5, n4, k4, n5, k5, t, rfl, hrd⟩; have HRD := Lib.hid hrd; have HB1 := Lib.hid hbw1; clear hrd hbw1) | ((go_at_call 64); (with_reducible refine (HRD.out _ ((Below.refl _ w1).alloc (Nat.le_refl _) _)).mono ?_); rintro e w2 ⟨A2, k2, rfl, ho2, hbw2⟩; have HB2 := Lib.hid ((HB1.out.alloc HB1.out.size _).trans (hbw2.mono (by have := HB1.out.size; simp; omega))); have HO2 := Lib.hid (isNm_of ho2.isL); clear ho2 hbw2) | ((go_at_call 34); (with_reducible refine (HM.out _ _ HO2.out).mono ?_); rintro e w3 ⟨v3, rfl, ho3, hbw3⟩; obtain ⟨A3, k3, rfl⟩ := isB_slice ho3.isB; have HB3 := Lib.hid (HB2.out.trans (hbw3.mono HB2.out.size)); have HV3 := Lib.hid ho3.isB; have HO3 := Lib.hid (HO2.out.below hbw3); clear hbw3 ho3) | ((go_at_call 28); (with_reducible refine (HBf.out _ _ HV3.out (HV.out.below HB3.out)).mono ?_); rintro e w4 ⟨rfl, hbw4⟩; have HB4 := Lib.hid (HB3.out.trans (hbw4.mono HB3.out.size)); clear hbw4))
      go_ret2
      exact ⟨HB4.out, rfl⟩
end Go.Proofs.YtlmnmgokfnnbbaaGreatDoor
end

/- Walks over cretulabase.RDN and Name. -/
section
set_option linter.unusedSimpArgs false
set_option linter.unusedVariables false
namespace Go.Proofs.YtlmnmgokfnnbbaaGreatDoor
open Go.RowKit Go.Cr
def Rbr (la lb : Rdn) (w : World) (ix : Value) (wr : World) : Prop := ∃ i : Nat, ix = .int .i64 (i : Int) ∧ i ≤ la.length ∧ i ≤ lb.length ∧ (∀ j, j < i → la.getD j default = lb.getD j default) ∧ Below w.heap.size w wr
theorem rdns_eq {la lb : Rdn} (hn : la.length = lb.length) (h : ∀ j, j < la.length → la.getD j default = lb.getD j default) : la = lb := by
  apply List.ext_getElem hn
  intro j h1 h2
  have := h j h1
  simpa [h1, h2] using this
set_option maxRecDepth 100000 in
set_option maxHeartbeats 8000000 in
theorem basRdn (a b : Value) (la lb : Rdn) (w : World) (ha : IsQs w a la) (hb : IsQs w b lb) : Calls Tryz.prog 26 #[a, b] w (RetB (.bool (decide (la = lb))) w) := by
  have hlena := ha.len (P := Tryz.prog) ulRdn
  have hlenb := hb.len (P := Tryz.prog) ulRdn
  have hmxa := ha.maxl
  have hmxb := hb.maxl
  have HA := Lib.hid ha
  have HB := Lib.hid hb
  obtain ⟨A, c, rfl⟩ := isQs_slice ha
  obtain ⟨A', c', rfl⟩ := isQs_slice hb
  obtain ⟨R, hR⟩ : ∃ R, decide (la = lb) = R := ⟨_, rfl⟩
  rw [hR]
  have HR := Lib.hid hR
  clear ha hb hR
  go_enter Tryz.func26, Tryz.ntmps26
  go_wp2_with fail
  go_loopw [5] (fun ix wr => Rbr la lb w ix wr) (fun ix _ => la.length + 1 - (intOf ix).toNat)
  case atStart => exact ⟨0, rfl, Nat.zero_le _, Nat.zero_le _, fun j h => by omega, Below.refl _ _⟩
  case round =>
    obtain ⟨i, rfl, hi, hi', hall, hbel⟩ := hrel
    have HALL := Lib.hid hall
    have HBR := Lib.hid hbel
    clear hall
    by_cases hlt : i < la.length
    · have hltI : (i : Int) < la.length := by omega
      by_cases hlt' : i < lb.length
      · have hltI' : (i : Int) < lb.length := by omega
        obtain ⟨b2, o2, A2, k2, hi2, hl2', hc2', hd2', hI2'⟩ := HA.out.at_ (P := Tryz.prog) ulRdn szAtt .i64 i hlt
        obtain ⟨b3, o3, A3, k3, hi3, hl3', hc3', hd3', hI3'⟩ := HB.out.at_ (P := Tryz.prog) ulRdn szAtt .i64 i hlt'
        have hga : la.getD i default = la[i] := by simp [hlt]
        have hgb : lb.getD i default = lb[i] := by simp [hlt']
        rw [← hga] at hc2' hd2' hI2'
        rw [← hgb] at hc3' hd3' hI3'
        have hl2 := Nat.lt_of_lt_of_le hl2' hbel.size
        have hl3 := Nat.lt_of_lt_of_le hl3' hbel.size
        have hc2 := (hbel.cell (p := ⟨b2, o2, none⟩) hl2').trans hc2'
        have hd2 := (hbel.cell (p := ⟨b2, o2 + 1, none⟩) hl2').trans hd2'
        have hc3 := (hbel.cell (p := ⟨b3, o3, none⟩) hl3').trans hc3'
        have hd3 := (hbel.cell (p := ⟨b3, o3 + 1, none⟩) hl3').trans hd3'
        have HI2 := Lib.hid (hI2'.below hbel)
        have HI3 := Lib.hid (hI3'.below hbel)
        have HC := Lib.hid (fun W (h : IsB W (.slice A2 (la.getD i default).2.length k2) (la.getD i default).2) (h' : IsB W (.slice A3 (lb.getD i default).2.length k3) (lb.getD i default).2) => attSame (la.getD i default).1 (lb.getD i default).1 _ _ _ _ W h h')
        obtain ⟨C, hC⟩ : ∃ C, decide ((la.getD i default).1 = (lb.getD i default).1 ∧ (la.getD i default).2 = (lb.getD i default).2) = C := ⟨_, rfl⟩
        rw [hC] at HC
        have HSS : Hid (∀ W, Below wr.heap.size wr W → W.cell? ⟨b2, o2, none⟩ = some (.string (la.getD i default).1) ∧ W.cell? ⟨b2, o2 + 1, none⟩ = some (.slice A2 (la.getD i default).2.length k2) ∧ W.cell? ⟨b3, o3, none⟩ = some (.string (lb.getD i default).1) ∧ W.cell? ⟨b3, o3 + 1, none⟩ = some (.slice A3 (lb.getD i default).2.length k3)) := fun W hW => ⟨(hW.cell (p := ⟨b2, o2, none⟩) hl2).trans hc2, (hW.cell (p := ⟨b2, o2 + 1, none⟩) hl2).trans hd2, (hW.cell (p := ⟨b3, o3, none⟩) hl3).trans hc3, (hW.cell (p := ⟨b3, o3 + 1, none⟩) hl3).trans hd3⟩
        have hEQ : C = true → la.getD i default = lb.getD i default := fun h => by
          have h2 := of_decide_eq_true (hC.trans h)
          exact Prod.ext h2.1 h2.2
        have hNE : C = false → R = false := fun h => by
          rw [← HR.out]
          refine decide_eq_false fun he => ?_
          subst he
          rw [h] at hC
          exact absurd ⟨rfl, rfl⟩ (of_decide_eq_false hC)
        have HEQ := Lib.hid hEQ
        have HNE := Lib.hid hNE
        obtain ⟨g0, g1, g2, g3⟩ := HSS.out wr (Below.refl _ _)
        clear hI2' hI3' hC hbel hEQ hNE hc2 hd2 hc3 hd3 hc2' hd2' hc3' hd3' hl2' hl3' hga hgb
        generalize hgx : la.getD i default = x at *
        generalize hgy : lb.getD i default = y at *
        have HGX := Lib.hid hgx
        have HGY := Lib.hid hgy
        clear hgx hgy
        obtain ⟨s1, l1⟩ := x
        obtain ⟨s2, l2⟩ := y
        simp only at HC g0 g1 g2 g3 HI2 HI3 HSS
        go_wp2_with fail
        have hcur := Lib.hid ((Below.refl wr.heap.size wr).drew)
        go_region_held3 (fun W' => W'.cell? ⟨b2, o2, none⟩ = some (.string s1) ∧ W'.cell? ⟨b2, o2 + 1, none⟩ = some (.slice A2 l1.length k2) ∧ W'.cell? ⟨b3, o3, none⟩ = some (.string s2) ∧ W'.cell? ⟨b3, o3 + 1, none⟩ = some (.slice A3 l2.length k3))
          (first | go_keep | exact HSS.out _ hcur.out)
          (first | ((go_at_call 56); (with_reducible refine (HC.out _ (HI2.out.below hcur.out) (HI3.out.below hcur.out)).mono ?_); rintro e wz ⟨rfl, hbz⟩; have hcur := Lib.hid (hcur.out.trans (hbz.mono hcur.out.size)); clear hbz))
        cases C with
        | true =>
          go_wp2_with fail
          go_roundw
          case rel =>
            refine ⟨i + 1, by go_num, by omega, by omega, fun j hj => ?_, HBR.out.trans (hcur.out.mono HBR.out.size)⟩
            by_cases hji : j < i
            · exact HALL.out j hji
            · obtain rfl : j = i := by omega
              rw [HGX.out, HGY.out]
              exact HEQ.out (by trivial)
          case measure => simp [intOf]; omega
        | false =>
          go_wp2_with fail
          go_ret
          exact ⟨by rw [HNE.out (by trivial)]; rfl, HBR.out.trans (hcur.out.mono HBR.out.size)⟩
      · have hge' : (lb.length : Int) ≤ i := by omega
        have hRf : R = false := by
          rw [← HR.out]
          exact decide_eq_false (fun h => by subst h; omega)
        have HRF := Lib.hid hRf
        have hne : ((la.length : Int) == lb.length) = false := beq_eq_false_iff_ne.2 (by omega)
        clear hRf hlt hlt'
        go_wp2_with fail
        go_ret
        exact ⟨by rw [HRF.out]; first | rfl | simp [*], HBR.out⟩
    · have hge : (la.length : Int) ≤ i := by omega
      have hie : i = la.length := by omega
      obtain ⟨E, hE⟩ : ∃ E, ((la.length : Int) == lb.length) = E := ⟨_, rfl⟩
      have hRE : R = E := by
        rw [← HR.out, ← hE]
        rw [Bool.eq_iff_iff, decide_eq_true_eq, beq_iff_eq]
        exact ⟨fun h => by rw [h], fun h => rdns_eq (by omega) fun j hj => HALL.out j (by omega)⟩
      have HRE := Lib.hid hRE
      clear hlt hi hRE hbel hi'
      go_wp2_with fail
      go_ret
      exact ⟨by rw [HRE.out]; first | rfl | simp [*], HBR.out⟩
def Rbn (la lb : Nam) (w : World) (ix : Value) (wr : World) : Prop := ∃ i : Nat, ix = .int .i64 (i : Int) ∧ i ≤ la.length ∧ i ≤ lb.length ∧ (∀ j, j < i → la.getD j [] = lb.getD j []) ∧ Below w.heap.size w wr
theorem nams_eq {la lb : Nam} (hn : la.length = lb.length) (h : ∀ j, j < la.length → la.getD j [] = lb.getD j []) : la = lb := by
  apply List.ext_getElem hn
  intro j h1 h2
  have := h j h1
  simpa [h1, h2] using this
set_option maxRecDepth 100000 in
set_option maxHeartbeats 8000000 in
theorem basNm (a b : Value) (la lb : Nam) (w : World) (ha : IsNm w a la) (hb : IsNm w b lb) : Calls Tryz.prog 37 #[a, b] w (RetB (.bool (decide (la = lb))) w) := by
  have hlena := ha.len (P := Tryz.prog) ulNam
  have hlenb := hb.len (P := Tryz.prog) ulNam
  have hmxa := ha.maxl
  have hmxb := hb.maxl
  have HA := Lib.hid ha
  have HB := Lib.hid hb
  obtain ⟨A, c, rfl⟩ := isNm_slice ha
  obtain ⟨A', c', rfl⟩ := isNm_slice hb
  obtain ⟨R, hR⟩ : ∃ R, decide (la = lb) = R := ⟨_, rfl⟩
  rw [hR]
  have HR := Lib.hid hR
  clear ha hb hR
  go_enter Tryz.func37, Tryz.ntmps37
  go_wp2_with fail
  go_loopw [5] (fun ix wr => Rbn la lb w ix wr) (fun ix _ => la.length + 1 - (intOf ix).toNat)
  case atStart => exact ⟨0, rfl, Nat.zero_le _, Nat.zero_le _, fun j h => by omega, Below.refl _ _⟩
  case round =>
    obtain ⟨i, rfl, hi, hi', hall, hbel⟩ := hrel
    have HALL := Lib.hid hall
    have HBR := Lib.hid hbel
    clear hall
    by_cases hlt : i < la.length
    · have hltI : (i : Int) < la.length := by omega
      by_cases hlt' : i < lb.length
      · have hltI' : (i : Int) < lb.length := by omega
        obtain ⟨b2, o2, A2, k2, hi2, hl2, hc2, hI2⟩ := (HA.out.below hbel).at_ (P := Tryz.prog) ulNam szRdn .i64 i hlt
        obtain ⟨b3, o3, A3, k3, hi3, hl3, hc3, hI3⟩ := (HB.out.below hbel).at_ (P := Tryz.prog) ulNam szRdn .i64 i hlt'
        have hga : la.getD i [] = la[i] := by simp [hlt]
        have hgb : lb.getD i [] = lb[i] := by simp [hlt']
        rw [← hga] at hc2 hI2
        rw [← hgb] at hc3 hI3
        have HI2 := Lib.hid hI2
        have HI3 := Lib.hid hI3
        have HC := Lib.hid (fun W (h : IsQs W (.slice A2 (la.getD i []).length k2) (la.getD i [])) (h' : IsQs W (.slice A3 (lb.getD i []).length k3) (lb.getD i [])) => basRdn _ _ _ _ W h h')
        obtain ⟨C, hC⟩ : ∃ C, decide (la.getD i [] = lb.getD i []) = C := ⟨_, rfl⟩
        rw [hC] at HC
        have HSS : Hid (∀ W, Below wr.heap.size wr W → W.cell? ⟨b2, o2, none⟩ = some (.slice A2 (la.getD i []).length k2) ∧ W.cell? ⟨b3, o3, none⟩ = some (.slice A3 (lb.getD i []).length k3)) := fun W hW => ⟨(hW.cell (p := ⟨b2, o2, none⟩) hl2).trans hc2, (hW.cell (p := ⟨b3, o3, none⟩) hl3).trans hc3⟩
        have hEQ : C = true → la.getD i [] = lb.getD i [] := fun h => of_decide_eq_true (hC.trans h)
        have hNE : C = false → R = false := fun h => by
          rw [← HR.out]
          refine decide_eq_false fun he => ?_
          subst he
          rw [h] at hC
          exact absurd rfl (of_decide_eq_false hC)
        have HEQ := Lib.hid hEQ
        have HNE := Lib.hid hNE
        clear hI2 hI3 hC hbel hEQ hNE hga hgb
        generalize hgx : la.getD i [] = x at *
        generalize hgy : lb.getD i [] = y at *
        have HGX := Lib.hid hgx
        have HGY := Lib.hid hgy
        clear hgx hgy
        go_wp2_with fail
        have hcur := Lib.hid ((Below.refl wr.heap.size wr).drew)
        go_region_held3 (fun W' => W'.cell? ⟨b2, o2, none⟩ = some (.slice A2 x.length k2) ∧ W'.cell? ⟨b3, o3, none⟩ = some (.slice A3 y.length k3))
          (first | go_keep | exact HSS.out _ hcur.out)
          (first | ((go_at_call 26); (with_reducible refine (HC.out _ (HI2.out.below hcur.out) (HI3.out.below hcur.out)).mono ?_); rintro e wz ⟨rfl, hbz⟩; have hcur := Lib.hid (hcur.out.trans (hbz.mono hcur.out.size)); clear hbz))
        cases C with
        | true =>
          go_wp2_with fail
          go_roundw
          case rel =>
            refine ⟨i + 1, by go_num, by omega, by omega, fun j hj => ?_, HBR.out.trans (hcur.out.mono HBR.out.size)⟩
            by_cases hji : j < i
            · exact HALL.out j hji
            · obtain rfl : j = i := by omega
              rw [HGX.out, HGY.out]
              exact HEQ.out (by trivial)
          case measure => simp [intOf]; omega
        | false =>
          go_wp2_with fail
          go_ret
          exact ⟨by rw [HNE.out (by trivial)]; rfl, HBR.out.trans (hcur.out.mono HBR.out.size)⟩
      · have hge' : (lb.length : Int) ≤ i := by omega
        have hRf : R = false := by
          rw [← HR.out]
          exact decide_eq_false (fun h => by subst h; omega)
        have HRF := Lib.hid hRf
        have hne : ((la.length : Int) == lb.length) = false := beq_eq_false_iff_ne.2 (by omega)
        clear hRf hlt hlt'
        go_wp2_with fail
        go_ret
        exact ⟨by rw [HRF.out]; first | rfl | simp [*], HBR.out⟩
    · have hge : (la.length : Int) ≤ i := by omega
      have hie : i = la.length := by omega
      obtain ⟨E, hE⟩ : ∃ E, ((la.length : Int) == lb.length) = E := ⟨_, rfl⟩
      have hRE : R = E := by
        rw [← HR.out, ← hE]
        rw [Bool.eq_iff_iff, decide_eq_true_eq, beq_iff_eq]
        exact ⟨fun h => by rw [h], fun h => nams_eq (by omega) fun j hj => HALL.out j (by omega)⟩
      have HRE := Lib.hid hRE
      clear hlt hi hRE hbel hi'
      go_wp2_with fail
      go_ret
      exact ⟨by rw [HRE.out]; first | rfl | simp [*], HBR.out⟩
end Go.Proofs.YtlmnmgokfnnbbaaGreatDoor
end
