/- The parts DnG, NdV, DrE, DrF, DrB, DrA, DrG of one proof, one behind the other. -/
import Derived.Test.YtlmnmgokfnnbbaaGreatDoorL28
import Derived.Test.YtlmnmgokfnnbbaaGreatDoorL26
import Derived.Test.YtlmnmgokfnnbbaaGreatDoorL10
import Derived.Test.YtlmnmgokfnnbbaaGreatDoorL02
import Derived.Deep.RegionHeld3

/- Walk over dn.Parse. -/
section
set_option linter.unusedSimpArgs false
set_option linter.unusedVariables false
namespace Go.Proofs.YtlmnmgokfnnbbaaGreatDoor
open Go.RowKit Go.Cr
theorem infoRdn : (Tryz.prog.info? 30).map (fun i => (i.zero, i.size, i.bytes)) = some (some (.slice none 0 0), 1, 24) := by kernel_rfl
def RetPNm (r : Option Nam) (L : Nat) (w : World) (e : Ending) (w' : World) : Prop := Below w.heap.size w w' ∧ match r with
  | none => ∃ ec eo : Int, 0 < ec ∧ 0 ≤ eo ∧ eo ≤ L ∧ e = .returned (.tuple #[.slice none 0 0, errV (ec, eo)])
  | some r => ∃ A k, e = .returned (.tuple #[.slice A r.length k, errV (0, 0)]) ∧ OwL (repL repA) (fun _ => True) w' w.heap.size 30 (.slice A r.length k) r
set_option maxRecDepth 100000 in
set_option maxHeartbeats 4000000 in
theorem pn_err (v : Value) (b : List UInt8) (w : World) (ec eo : Int) (hv : IsB w v b) (hL : b.length ≤ 90000) (hp : partsE b 0 16 = .error (ec, eo)) : Calls Tryz.prog 36 #[v] w (RetPNm none b.length w) := by
  obtain ⟨h1, h2, h3⟩ := partsE_err hp
  have HP : Hid (∀ W, IsB W v b → Calls Tryz.prog 53 #[v, .int .i64 0, .int .i64 16] W (RetB (.tuple #[.slice none 0 0, errV (ec, eo)]) W)) := fun W h => (parts_any v b 0 16 W h (by omega)).mono fun e w' hh => by
    rw [hp] at hh
    obtain ⟨hb, ⟨er, he, h⟩ | ⟨xs, o, he, _⟩⟩ := hh
    · injection he with he; subst he; exact ⟨h, hb⟩
    · cases he
  obtain ⟨A, c, rfl⟩ := isB_slice hv
  have HV := Lib.hid hv
  simp only [errV] at HP
  have hn : (ec == 0) = false := beq_eq_false_iff_ne.2 (by omega)
  have hn' : (ec != 0) = true := by simp; omega
  have HE := Lib.hid (And.intro h1 (And.intro h2 h3))
  clear hv hp h1 h2 h3
  go_enter Tryz.func36, Tryz.ntmps36
  go_wp2_with (((go_at_call 53); (with_reducible refine (HP.out _ (HV.out.alloc _)).mono ?_); rintro e w1 ⟨rfl, hbw1⟩; have K := Blk.call (Blk.new w 38 #[.int .i64 0, .int .i64 0]) hbw1; have qK := K.q; have fK := K.fz; have lK := K.lt; have HB1 := Lib.hid (((Below.refl w.heap.size w).alloc (Nat.le_refl _) (.cells #[.int .i64 0, .int .i64 0] 38)).trans (hbw1.mono (by simp))); clear K hbw1))
  go_region
  all_goals
    go_wp2
    refine bodyPost_ret (v := .tuple #[.slice none 0 0, errV (ec, eo)]) (by simp only [results, Tryz.results36]; go_simp) rfl ?_
    have s1 := HB1.out.size
    have b1 := HB1.out
    exact ⟨by ((repeat' (first | (with_reducible exact Below.refl _ _) | (with_reducible assumption) | (with_reducible refine Below.setCell ?_ ?_ _) | (with_reducible refine Below.alloc ?_ ?_ _) | (with_reducible refine Below.drew ?_) | (with_reducible refine below_drewN ?_ _) | (with_reducible refine Below.step (by with_reducible assumption) ?_ ?_))) <;> (first | omega | (simp; done) | (simp; omega))), ec, eo, HE.out.1, HE.out.2.1, HE.out.2.2, rfl⟩
def PnRel (n : Nat) (ps : List (List UInt8)) (w1 : World) (ov ix : Value) (wr : World) : Prop :=
  ∃ (i : Nat) (nm : Nam), ix = .int .i64 (i : Int) ∧ i ≤ n ∧ nm.length = i ∧ (∀ j (h : j < nm.length), parR (ps.getD j []) = some nm[j]) ∧ OwL (repL repA) (fun _ => True) wr w1.heap.size 30 ov nm ∧ Below w1.heap.size w1 wr
set_option maxRecDepth 100000 in
set_option maxHeartbeats 32000000 in
theorem pn_loop (v : Value) (b : List UInt8) (xs : List Elem) (w : World) (hG : Glo w) (hv : IsB w v b) (hL : b.length ≤ 90000) (hp : partsE b 0 16 = .ok xs) : Calls Tryz.prog 36 #[v] w (RetPNm (parNm b) b.length w) := by
  have hall := (partsE_ok hp).2.2.2.2.2
  have hpr : parNm b = optL parR (segsE b xs) := by
    simp only [parNm, hp]
  have hsl : (segsE b xs).length = xs.length := segsE_len b xs
  have HNX : Hid (∀ i, i < xs.length → parR ((segsE b xs).getD i []) = none → parNm b = none) := fun i hi he => by
    rw [hpr, optL_bad (by rw [hsl]; exact hi) (by simpa [hsl, hi] using he)]
  have HYS : Hid (∀ nm : Nam, nm.length = xs.length → (∀ j (h : j < nm.length), parR ((segsE b xs).getD j []) = some nm[j]) → parNm b = some nm) := fun nm hl h => by
    rw [hpr]
    exact optL_mk (by rw [hsl, hl]) fun i h1 h2 => by
      have := h i h2
      simpa [h1] using this
  have hcnt : xs.length ≤ 90000 := by
    obtain ⟨hb, _⟩ := partsE_ok hp
    have h1 := cnt_flat (ls := segsE b xs) (fun p hp' => by
      unfold segsE at hp'
      obtain ⟨x, hx, rfl⟩ := List.mem_map.1 hp'
      exact ⟨_, (hall x hx).2.2.2.2⟩)
    have h2 := encO_len 0 16 true (segsE b xs).flatten
    rw [← hb] at h2
    omega
  have HALL : Hid (∀ (i : Nat) (hi : i < xs.length), 0 ≤ xs[i].start ∧ xs[i].start ≤ xs[i].stop ∧ xs[i].stop ≤ b.length ∧ (segsE b xs).getD i [] = seg b xs[i].start xs[i].stop) := fun i hi => by
    obtain ⟨a0, a1, a2, a3, _⟩ := hall xs[i] (List.getElem_mem hi)
    exact ⟨a0, by omega, a3, by simp [segsE, hi]⟩
  have HP := Lib.hid (fun W h => parts_ownD (v := v) (by omega) hp W h)
  have HAP := Lib.hid (fun v y W (g : Glo W) (h : IsB W v y) (hl : y.length ≤ 90000) => dnParseRDN v y W g h hl)
  obtain ⟨cells, hcl⟩ : ∃ cells, elCells xs = cells := ⟨_, rfl⟩
  have HCL := Lib.hid hcl
  obtain ⟨PR, hPR⟩ : ∃ PR, parNm b = PR := ⟨_, rfl⟩
  rw [hPR] at HNX HYS ⊢
  obtain ⟨A, c, rfl⟩ := isB_slice hv
  have HV := Lib.hid hv
  have HG := Lib.hid hG
  obtain ⟨j0, hj0, hy0, hy1, hy2⟩ := info_parts infoRdn
  unfold RetPoD at HP
  simp only [errV] at HP
  have HPL := Lib.hid hsl
  clear hv hG hp hall hpr hsl hcl hPR
  generalize segsE b xs = ps at *
  go_enter Tryz.func36, Tryz.ntmps36
  go_wp2_with (((go_at_call 53); (with_reducible refine (HP.out _ (HV.out.alloc _)).mono ?_); rintro e w1 ⟨A5, k5, rfl, hr, hbw1⟩; rw [HCL.out] at hr; have hl5 := (IsR.of_own hr).len (P := Tryz.prog) ulEl; have HRS := Lib.hid hr; have HK1 := Lib.hid (Blk.call (Blk.new w 38 #[.int .i64 0, .int .i64 0]) hbw1); have HB1 := Lib.hid (((Below.refl w.heap.size w).alloc (Nat.le_refl _) (.cells #[.int .i64 0, .int .i64 0] 38)).trans (hbw1.mono (by simp))); clear hr hbw1))
  have HB2 := Lib.hid (HB1.out.alloc HB1.out.size (.cells #[.int .i64 0, .int .i64 0] 38))
  have HK2 := Lib.hid (HK1.out.alloc (.cells #[.int .i64 0, .int .i64 0] 38))
  have HRS2 := Lib.hid (ownsRow_more (base' := 0) (ownsRow_below HRS.out ((Below.refl _ w1).alloc (Nat.le_refl _) (.cells #[.int .i64 0, .int .i64 0] 38))) (Nat.zero_le _))
  have hw2 : w.heap.size < (w1.alloc (.cells #[.int .i64 0, .int .i64 0] 38)).heap.size := HK2.out.lt
  clear HB1 HK1 HRS HP
  generalize w1.alloc (.cells #[.int .i64 0, .int .i64 0] 38) = w2 at *
  go_loopw [6, 22] (fun ov ix wr => PnRel xs.length ps w2 ov ix wr) (fun _ ix _ => xs.length + 1 - (intOf ix).toNat)
  case atStart => exact ⟨0, [], rfl, Nat.zero_le _, rfl, fun j h => absurd h (by simp), OwL.nil_ _ _ _ _, Below.refl _ _⟩
  case round =>
    obtain ⟨i, nm, rfl, hi, hal, has, how, hbel⟩ := hrel
    have HAS := Lib.hid has
    have HAL := Lib.hid hal
    have HOW := Lib.hid how
    have HBR := Lib.hid hbel
    have hsz := hbel.size
    have HCU := Lib.hid (HB2.out.trans (hbel.mono (Nat.le_of_lt hw2)))
    have HKR := Lib.hid (HK2.out.below hbel hw2)
    have lKR := HKR.out.lt
    by_cases hlt : i < xs.length
    · obtain ⟨b2, o2, hi2, hS2, hl2, hc2⟩ := rs_at (IsRS.of_own (ownsRow_below HRS2.out hbel)) ulEl szEl .i64 (i := (i : Int)) (by omega) (by omega)
      rw [Int.toNat_natCast, ← HCL.out] at hc2
      obtain ⟨p0, p1, p2, p3, p4, p5⟩ := elc_at hlt rfl hc2
      obtain ⟨a0, a1, a2, a3⟩ := HALL.out i hlt
      obtain ⟨vc, hcut, hvc⟩ := (HV.out.below HB2.out).cut (P := Tryz.prog) ulB szB .i64 .i64 (lo := xs[i].start) (hi := xs[i].stop) a0 a1 a2
      have hvc' : IsB w2 vc (seg b xs[i].start xs[i].stop) := hvc
      have hsl := seg_len b xs[i].start xs[i].stop a0 a1 a2
      rw [← a3] at hvc' hsl
      have hltI : (i : Int) < xs.length := by omega
      have HSN := Lib.hid hsl
      have hple : (ps.getD i []).length ≤ 90000 := by omega
      obtain ⟨Ac, kc, rfl⟩ := isB_slice hvc'
      have HVC := Lib.hid hvc'
      have HNXi := Lib.hid (fun h => HNX.out i hlt h)
      clear hc2 hvc hvc' hsl has how hal hbel a3
      generalize hyi : ps.getD i [] = y at *
      have HYI := Lib.hid hyi
      clear hyi
      generalize xs[i] = x at *
      obtain ⟨xc, xn, xk, xs', xb, xe⟩ := x
      simp only at p0 p1 p2 p3 p4 p5 a0 a1 a2 hcut
      have HX3 := Lib.hid (Blk.new wr 76 #[.int .i64 xc, .int .i64 xn, .bool xk, .int .i64 xs', .int .i64 xb, .int .i64 xe])
      have HK3 := Lib.hid (HKR.out.alloc (.cells #[.int .i64 xc, .int .i64 xn, .bool xk, .int .i64 xs', .int .i64 xb, .int .i64 xe] 76))
      have HB3 := Lib.hid (HBR.out.alloc hsz (.cells #[.int .i64 xc, .int .i64 xn, .bool xk, .int .i64 xs', .int .i64 xb, .int .i64 xe] 76))
      have HC3 := Lib.hid (HB2.out.trans (HB3.out.mono (Nat.le_of_lt hw2)))
      have HOW3 := Lib.hid (HOW.out.alloc (.cells #[.int .i64 xc, .int .i64 xn, .bool xk, .int .i64 xs', .int .i64 xb, .int .i64 xe] 76))
      have hz3 : w2.heap.size ≤ wr.heap.size + 1 := by omega
      cases hpx : parR y with
      | none =>
        have HPX := Lib.hid (show ∀ W, Glo W → IsB W (.slice Ac y.length kc) y → Calls Tryz.prog 25 #[.slice Ac y.length kc] W (RetPR none y.length W) from fun W g h => by have := HAP.out _ y W g h hple; rwa [hpx] at this)
        obtain rfl := HNXi.out hpx
        unfold RetPR at HPX
        simp only [errV] at HPX
        clear hpx
        go_wp2_with (((go_at_call 25); (with_reducible refine (HPX.out _ (HG.out.below HC3.out) (HVC.out.below HB3.out)).mono ?_); rintro e w4 ⟨hbw4, ec, eo, h1, h2, h3, rfl⟩; have hn : (ec == 0) = false := beq_eq_false_iff_ne.2 (by omega); have hn' : (ec != 0) = true := (by simp; omega); have X4 := HX3.out.call hbw4; have qX4 := X4.q; have lX4 := X4.lt; have K4 := HK3.out.call hbw4; have qK4 := K4.q; have fK4 := K4.fz; have lK4 := K4.lt; have HC4 := Lib.hid (HC3.out.trans (hbw4.mono HC3.out.size)); have HER := Lib.hid (And.intro h1 (And.intro h2 h3)); have hsn := HSN.out; (try simp only at hsn); have HEL := Lib.hid (show xs' + eo ≤ b.length by omega); have hws : IntKind.i64.wrap (xs' + eo) = xs' + eo := (by rw [IntKind.wrap_i64]; omega); clear X4 K4 hbw4))
        go_region
        all_goals
          go_wp2
          refine bodyPost_ret (v := .tuple #[.slice none 0 0, errV (ec, xs' + eo)]) (by simp only [results, Tryz.results36]; go_simp) rfl ?_
          have s1 := HC4.out.size
          have b1 := HC4.out
          exact ⟨by ((repeat' (first | (with_reducible exact Below.refl _ _) | (with_reducible assumption) | (with_reducible refine Below.setCell ?_ ?_ _) | (with_reducible refine Below.alloc ?_ ?_ _) | (with_reducible refine Below.drew ?_) | (with_reducible refine below_drewN ?_ _) | (with_reducible refine Below.step (by with_reducible assumption) ?_ ?_))) <;> (first | omega | (simp; done) | (simp; omega))), ec, xs' + eo, HER.out.1, by have := HER.out; omega, HEL.out, rfl⟩
      | some r =>
        have HPX := Lib.hid (show ∀ W, Glo W → IsB W (.slice Ac y.length kc) y → Calls Tryz.prog 25 #[.slice Ac y.length kc] W (RetPR (some r) y.length W) from fun W g h => by have := HAP.out _ y W g h hple; rwa [hpx] at this)
        unfold RetPR at HPX
        simp only [errV] at HPX
        have HPXa := Lib.hid hpx
        clear hpx
        generalize hrl : r.length = rl at *
        have HRL := Lib.hid hrl
        clear hrl
        go_wp2_with (first | ((go_at_call 25); (with_reducible refine (HPX.out _ (HG.out.below HC3.out) (HVC.out.below HB3.out)).mono ?_); rintro e w4 ⟨hbw4, A4, k4, rfl, ho4⟩; have HB4 := Lib.hid ((HB3.out.trans (hbw4.mono (by simpa using hz3))).alloc (by have := hbw4.size; simp at this; omega) (.cells #[.int .i64 0, .int .i64 0] 38)); have HOW4 := Lib.hid ((HOW3.out.below hbw4).alloc (.cells #[.int .i64 0, .int .i64 0] 38)); have HV4 := Lib.hid (ho4.isL.alloc (.cells #[.int .i64 0, .int .i64 0] 38)); clear hbw4 ho4) | (at_builtin; refine wpList_appL (r := repL repA) (X := fun _ => True) _ rfl _ _ 23 rfl w2.heap.size 30 ulNam hj0 hy0 hy1 hy2 rfl (by decide) _ nm rfl (HOW4.out.alloc _) _ [.slice A4 rl k4] r rfl (isR_at rfl (by simp)) ⟨_, rfl, ?e1⟩ ?m1 ?m2 trivial ?_))
        case e1 => exact (HV4.out.weak fun b hb hS => ⟨⟨by have := hS.1; simp at this; omega, HOW3.out.notNew hS.1⟩, trivial⟩).alloc _
        case m1 => have := HAL.out; omega
        case m2 => have := HB4.out.size; simp at this; simp; omega
        intro v8 w8 ho8 hb8 hg8
        have HO8 := Lib.hid ho8
        have HB8 := Lib.hid ((HB4.out.alloc HB4.out.size (.cells #[.slice A4 rl k4] 30)).trans hb8)
        clear ho8 hb8 hg8
        go_wp2
        go_roundw
        case rel =>
          refine ⟨i + 1, nm ++ [r], by go_num, by omega, by simp [HAL.out], fun j hj => ?_, HO8.out, HB8.out⟩
          have hal := HAL.out
          by_cases hji : j < nm.length
          · rw [List.getElem_append_left hji]; exact HAS.out j hji
          · have hje : j = nm.length := by simp at hj; omega
            subst hje
            have e : ps.getD nm.length [] = y := by rw [hal]; exact HYI.out
            rw [List.getElem_append_right (Nat.le_refl _), e]
            simpa using HPXa.out
        case measure => simp [intOf]; omega
    · have hie : i = xs.length := by omega
      have hge : (xs.length : Int) ≤ i := by omega
      obtain rfl := HYS.out nm (by omega) has
      have qK := HKR.out.q
      have fK := HKR.out.fz
      obtain ⟨Ao, ko, rfl⟩ := how.slice
      clear has how hbel hlt hi
      go_wp2_with fail
      refine bodyPost_ret (v := .tuple #[.slice Ao nm.length ko, errV (0, 0)]) (by simp only [results, Tryz.results36]; go_simp) rfl ?_
      have s1 := HCU.out.size
      have b1 := HCU.out
      refine ⟨by ((repeat' (first | (with_reducible exact Below.refl _ _) | (with_reducible assumption) | (with_reducible refine Below.setCell ?_ ?_ _) | (with_reducible refine Below.alloc ?_ ?_ _) | (with_reducible refine Below.drew ?_) | (with_reducible refine below_drewN ?_ _) | (with_reducible refine Below.step (by with_reducible assumption) ?_ ?_))) <;> (first | omega | (simp; done) | (simp; omega))), Ao, ko, rfl, ?_⟩
      exact ((HOW.out.setLow (p := ⟨w.heap.size, 0, none⟩) hw2 _).setLow (p := ⟨w.heap.size, 1, none⟩) hw2 _).more (Nat.le_of_lt hw2)
theorem dnParse (v : Value) (b : List UInt8) (w : World) (hG : Glo w) (hv : IsB w v b) (hL : b.length ≤ 90000) : Calls Tryz.prog 36 #[v] w (RetPNm (parNm b) b.length w) := by
  cases hp : partsE b 0 16 with
  | error er =>
    obtain ⟨ec, eo⟩ := er
    have : parNm b = none := by unfold parNm; rw [hp]
    rw [this]
    exact pn_err v b w ec eo hv hL hp
  | ok xs => exact pn_loop v b xs w hG hv hL hp
end Go.Proofs.YtlmnmgokfnnbbaaGreatDoor
end

/- Nodes as values: what the reference's readers do with a node, or with none. -/
section
set_option linter.unusedSimpArgs false
set_option linter.unusedVariables false
namespace Go.Proofs.YtlmnmgokfnnbbaaGreatDoor
open Go.RowKit Go.Cr
theorem nextH_nil : ∃ e, nextH [] = .error e := ⟨_, rfl⟩
theorem kidsT_nil (d : Nat) : kidsT d [] = [] := by obtain ⟨e, h⟩ := nextH_nil; unfold kidsT; rw [h]
theorem kidC_nil : kidC [] = [] := by obtain ⟨e, h⟩ := nextH_nil; unfold kidC; rw [h]
def NdV (d : Nat) (w : World) (nv : Value) (l : List UInt8) : Prop := ∃ (c1 c2 : Int) (c3 : Bool) (a4 a5 : Option Addr) (n4 k4 n5 k5 : Nat), nv = .agg #[.int .i64 c1, .int .i64 c2, .bool c3, .slice a4 n4 k4, .slice a5 n5 k5] ∧
  ((∃ S, IsNode S d w [.int .i64 c1, .int .i64 c2, .bool c3, .slice a4 n4 k4, .slice a5 n5 k5] l) ∨ (l = [] ∧ nv = .agg #[.int .i64 0, .int .i64 0, .bool false, .slice none 0 0, .slice none 0 0]))
theorem NdV.below {d : Nat} {w w' : World} {nv : Value} {l : List UInt8} (h : NdV d w nv l) (hb : Below w.heap.size w w') : NdV d w' nv l := by
  obtain ⟨c1, c2, c3, a4, a5, n4, k4, n5, k5, e, h⟩ := h
  refine ⟨c1, c2, c3, a4, a5, n4, k4, n5, k5, e, ?_⟩
  rcases h with ⟨S, h⟩ | h
  · exact .inl ⟨S, h.below hb⟩
  · exact .inr h
theorem NdV.zero (d : Nat) (w : World) : NdV d w (.agg #[.int .i64 0, .int .i64 0, .bool false, .slice none 0 0, .slice none 0 0]) [] := ⟨0, 0, false, none, none, 0, 0, 0, 0, rfl, .inr ⟨rfl, rfl⟩⟩
theorem NdV.of {S : Nat → Prop} {d : Nat} {w : World} {c1 c2 : Int} {c3 : Bool} {a4 a5 : Option Addr} {n4 k4 n5 k5 : Nat} {l : List UInt8} (h : IsNode S d w [.int .i64 c1, .int .i64 c2, .bool c3, .slice a4 n4 k4, .slice a5 n5 k5] l) : NdV d w (.agg #[.int .i64 c1, .int .i64 c2, .bool c3, .slice a4 n4 k4, .slice a5 n5 k5]) l :=
  ⟨_, _, _, _, _, _, _, _, _, rfl, .inl ⟨S, h⟩⟩
theorem NdV.open_ {d : Nat} {w : World} {nv : Value} {l : List UInt8} (h : NdV (d + 1) w nv l) :
    ∃ (c1 c2 : Int) (c3 : Bool) (a4 a5 : Option Addr) (n4 k4 n5 k5 : Nat) (S : Nat → Prop) (xs : List Value), nv = .agg #[.int .i64 c1, .int .i64 c2, .bool c3, .slice a4 n4 k4, .slice a5 n5 k5] ∧ IsB w (.slice a4 n4 k4) (kidC l) ∧ n5 = (kidsT d l).length ∧ IsR w (.slice a5 n5 k5) 5 n5 xs ∧
      (∀ j (hj : j < (kidsT d l).length), IsNode S d w ((xs.drop (j * 5)).take 5) (kidsT d l)[j]) ∧ (kidsT d l).flatten.length ≤ l.length := by
  obtain ⟨c1, c2, c3, a4, a5, n4, k4, n5, k5, e, h⟩ := h
  rcases h with ⟨S, h⟩ | ⟨hl, e2⟩
  · obtain ⟨x1, x2, x3, v4, v5, xs, he, h1, h2, h3, h4⟩ := isNode_open h
    injection he with e1 he; injection he with e2 he; injection he with e3 he; injection he with e4 he; injection he with e5 he
    subst e4 e5
    have hn : n5 = (kidsT d l).length := by
      obtain ⟨A, c, hv, _⟩ := h2
      injection hv
    subst hn
    exact ⟨c1, c2, c3, a4, a5, n4, k4, _, k5, S, xs, e, h1, rfl, h2, h3, h4⟩
  · subst hl
    rw [e] at e2
    injection e2 with e2
    injection e2 with e2
    injection e2 with e10 e2; injection e2 with e11 e2; injection e2 with e12 e2; injection e2 with e13 e2; injection e2 with e14 e2
    injection e13 with e15 e16 e17
    injection e14 with e18 e19 e20
    subst e15 e16 e17 e18 e19 e20
    refine ⟨c1, c2, c3, none, none, 0, 0, 0, 0, fun _ => True, [], e, by rw [kidC_nil]; exact isB_nil0 w, by rw [kidsT_nil]; rfl, ⟨none, 0, rfl, Nat.le_refl _, by decide, rfl, fun h => absurd h (by omega)⟩, ?_, by rw [kidsT_nil]; simp⟩
    rw [kidsT_nil]
    exact fun j hj => absurd hj (by simp)
theorem NdV.shape {d : Nat} {w : World} {nv : Value} {l : List UInt8} (h : NdV d w nv l) : ∃ (c1 c2 : Int) (c3 : Bool) (a4 a5 : Option Addr) (n4 k4 n5 k5 : Nat), nv = .agg #[.int .i64 c1, .int .i64 c2, .bool c3, .slice a4 n4 k4, .slice a5 n5 k5] := by
  obtain ⟨c1, c2, c3, a4, a5, n4, k4, n5, k5, e, _⟩ := h
  exact ⟨_, _, _, _, _, _, _, _, _, e⟩

set_option maxRecDepth 100000 in
set_option maxHeartbeats 4000000 in
theorem rKid_none (i : Nat) (c1 c2 : Int) (c3 : Bool) (v4 v5 : Value) (n : Nat) (xs : List Value) (w : World) (h4 : v4.oneCell' = true) (h5 : IsR w v5 5 n xs) (hn : n ≤ i) :
    Calls Tryz.prog 134 #[.agg #[.int .i64 c1, .int .i64 c2, .bool c3, v4, v5], .int .i64 (i : Int)] w (RetB (.agg #[.int .i64 0, .int .i64 0, .bool false, .slice none 0 0, .slice none 0 0]) w) := by
  have hl5 := h5.len (P := Tryz.prog) ulNodes
  obtain ⟨A5, k5, rfl⟩ : ∃ A5 k5, v5 = .slice A5 n k5 := by obtain ⟨A5, k5, h, _⟩ := h5; exact ⟨A5, k5, h⟩
  have hneg : decide ((i : Int) < 0) = false := decide_eq_false (by omega)
  have hd1 : decide (n ≤ i) = true := decide_eq_true hn
  have hd2 : decide ((i : Int) ≥ n) = true := decide_eq_true (by omega)
  clear h5 hn
  go_enter Tryz.func134, Tryz.ntmps134
  go_wp2_with fail
  (refine bodyPost_retB (v := .agg #[.int .i64 0, .int .i64 0, .bool false, .slice none 0 0, .slice none 0 0]) (by (simp only [results, Tryz.results134]; try go_simp)) rfl rfl ?_; ((repeat' (first | (with_reducible exact Below.refl _ _) | (with_reducible assumption) | (with_reducible refine Below.setCell ?_ ?_ _) | (with_reducible refine Below.alloc ?_ ?_ _) | (with_reducible refine Below.drew ?_) | (with_reducible refine below_drewN ?_ _) | (with_reducible refine Below.step (by with_reducible assumption) ?_ ?_))) <;> (first | omega | (simp; done) | (simp; omega))))

set_option maxRecDepth 100000 in
set_option maxHeartbeats 4000000 in
theorem rKid_some (i : Nat) (c1 c2 : Int) (c3 : Bool) (v4 v5 : Value) (n : Nat) (xs : List Value) (w : World) (h4 : v4.oneCell' = true) (h5 : IsR w v5 5 n xs) (hn : i < n)
    (x1 x2 : Int) (x3 : Bool) (y4 y5 : Option Addr) (m4 z4 m5 z5 : Nat) (hx : (xs.drop (i * 5)).take 5 = [.int .i64 x1, .int .i64 x2, .bool x3, .slice y4 m4 z4, .slice y5 m5 z5]) :
    Calls Tryz.prog 134 #[.agg #[.int .i64 c1, .int .i64 c2, .bool c3, v4, v5], .int .i64 (i : Int)] w (RetB (.agg #[.int .i64 x1, .int .i64 x2, .bool x3, .slice y4 m4 z4, .slice y5 m5 z5]) w) := by
  have hl5 := h5.len (P := Tryz.prog) ulNodes
  obtain ⟨b, o, hi, hbl, hcx⟩ := h5.at_ (P := Tryz.prog) ulNodes szNode .i64 (i := (i : Int)) (by omega) (by omega)
  rw [Int.toNat_natCast] at hcx
  obtain ⟨A5, k5, rfl⟩ : ∃ A5 k5, v5 = .slice A5 n k5 := by obtain ⟨A5, k5, h, _⟩ := h5; exact ⟨A5, k5, h⟩
  have p0 := hcx 0 _ (take5_at hx 0 (by omega))
  have p1 := hcx 1 _ (take5_at hx 1 (by omega))
  have p2 := hcx 2 _ (take5_at hx 2 (by omega))
  have p3 := hcx 3 _ (take5_at hx 3 (by omega))
  have p4 := hcx 4 _ (take5_at hx 4 (by omega))
  rw [Nat.add_zero] at p0
  have hneg : decide ((i : Int) < 0) = false := decide_eq_false (by omega)
  have hnI : (i : Int) < n := by omega
  have hd1 : decide (n ≤ i) = false := decide_eq_false (by omega)
  have hd2 : decide ((i : Int) ≥ n) = false := decide_eq_false (by omega)
  clear h5 hcx hx
  go_enter Tryz.func134, Tryz.ntmps134
  go_wp2_with fail
  (refine bodyPost_retB (v := .agg #[.int .i64 x1, .int .i64 x2, .bool x3, .slice y4 m4 z4, .slice y5 m5 z5]) (by (simp only [results, Tryz.results134]; try go_simp)) rfl rfl ?_; ((repeat' (first | (with_reducible exact Below.refl _ _) | (with_reducible assumption) | (with_reducible refine Below.setCell ?_ ?_ _) | (with_reducible refine Below.alloc ?_ ?_ _) | (with_reducible refine Below.drew ?_) | (with_reducible refine below_drewN ?_ _) | (with_reducible refine Below.step (by with_reducible assumption) ?_ ?_))) <;> (first | omega | (simp; done) | (simp; omega))))

theorem rKid {d : Nat} {nv : Value} {l : List UInt8} {w : World} (h : NdV (d + 1) w nv l) (i : Nat) :
    ∃ nv', NdV d w nv' ((kidsT d l).getD i []) ∧ ∀ W, Below w.heap.size w W → Calls Tryz.prog 134 #[nv, .int .i64 (i : Int)] W (RetB nv' W) := by
  obtain ⟨c1, c2, c3, a4, a5, n4, k4, n5, k5, S, xs, rfl, h4, rfl, h5, hk, _⟩ := h.open_
  by_cases hi : i < (kidsT d l).length
  · have hnd := hk i hi
    obtain ⟨x1, x2, x3, y4, y5, m4, z4, m5, z5, hx⟩ := hnd.shape
    rw [hx] at hnd
    refine ⟨_, ?_, fun W hW => rKid_some i c1 c2 c3 _ _ _ xs W rfl (h5.below hW) hi x1 x2 x3 y4 y5 m4 z4 m5 z5 hx⟩
    have : (kidsT d l).getD i [] = (kidsT d l)[i] := by simp [hi]
    rw [this]
    exact NdV.of hnd
  · refine ⟨_, ?_, fun W hW => rKid_none i c1 c2 c3 _ _ _ xs W rfl (h5.below hW) (by omega)⟩
    have : (kidsT d l).getD i [] = [] := by simp [show (kidsT d l).length ≤ i by omega]
    rw [this]
    exact NdV.zero d w
theorem rRdObj {d : Nat} {nv : Value} {l : List UInt8} {w : World} (h : NdV (d + 1) w nv l) (hl : l.length ≤ 4000) :
    ∀ W, Below w.heap.size w W → Calls Tryz.prog 133 #[nv] W (RetB (.string (bStr (rdObj l))) W) := by
  obtain ⟨c1, c2, c3, a4, a5, n4, k4, n5, k5, S, xs, rfl, h4, rfl, h5, hk, _⟩ := h.open_
  intro W hW
  have := kidC_len l
  exact rReadObj c1 c2 c3 _ _ (kidC l) W (h4.below hW) rfl (by omega)
theorem rOcts {d : Nat} {nv : Value} {l : List UInt8} {w : World} (h : NdV (d + 1) w nv l) (hl : l.length ≤ 900000) :
    ∀ W, Below w.heap.size w W → Calls Tryz.prog 135 #[nv, .int .i64 1] W (RetO 5 ((kidsT d l).getD 1 []) W) := by
  obtain ⟨c1, c2, c3, a4, a5, n4, k4, n5, k5, S, xs, rfl, h4, rfl, h5, hk, hf⟩ := h.open_
  intro W hW
  have := getD_len (kidsT d l) 1
  exact rOctets1 d S c1 c2 c3 _ _ (kidsT d l) xs W rfl (h5.below hW) (fun j hj => (hk j hj).below hW) (by omega)
theorem NdV.row {d : Nat} {nv : Value} {l : List UInt8} {w : World} (h : NdV (d + 1) w nv l) :
    ∃ (c1 c2 : Int) (c3 : Bool) (a4 a5 : Option Addr) (n4 k4 k5 : Nat), nv = .agg #[.int .i64 c1, .int .i64 c2, .bool c3, .slice a4 n4 k4, .slice a5 (kidsT d l).length k5] ∧ (∃ xs, IsR w (.slice a5 (kidsT d l).length k5) 5 (kidsT d l).length xs) ∧
      ∀ i (hi : i < (kidsT d l).length), ∃ (b o : Nat) (x1 x2 : Int) (x3 : Bool) (y4 y5 : Option Addr) (m4 z4 m5 z5 : Nat), (∀ W : World, (Instr.indexAt 83 (.slice a5 (kidsT d l).length k5) (.int .i64 (i : Int))).run Tryz.prog W = .ok (.pointer (some ⟨b, o, none⟩)) W) ∧ b < w.heap.size ∧
        w.cell? ⟨b, o, none⟩ = some (.int .i64 x1) ∧ w.cell? ⟨b, o + 1, none⟩ = some (.int .i64 x2) ∧ w.cell? ⟨b, o + 2, none⟩ = some (.bool x3) ∧ w.cell? ⟨b, o + 3, none⟩ = some (.slice y4 m4 z4) ∧ w.cell? ⟨b, o + 4, none⟩ = some (.slice y5 m5 z5) ∧
        NdV d w (.agg #[.int .i64 x1, .int .i64 x2, .bool x3, .slice y4 m4 z4, .slice y5 m5 z5]) (kidsT d l)[i] := by
  obtain ⟨c1, c2, c3, a4, a5, n4, k4, n5, k5, S, xs, rfl, h4, rfl, h5, hk, _⟩ := h.open_
  refine ⟨c1, c2, c3, a4, a5, n4, k4, k5, rfl, ⟨xs, h5⟩, fun i hi => ?_⟩
  obtain ⟨b, o, hia, hbl, hcx⟩ := h5.at_ (P := Tryz.prog) ulNodes szNode .i64 (i := (i : Int)) (by omega) (by omega)
  rw [Int.toNat_natCast] at hcx
  have hnd := hk i hi
  obtain ⟨x1, x2, x3, y4, y5, m4, z4, m5, z5, hx⟩ := hnd.shape
  rw [hx] at hnd
  have p0 := hcx 0 _ (take5_at hx 0 (by omega))
  have p1 := hcx 1 _ (take5_at hx 1 (by omega))
  have p2 := hcx 2 _ (take5_at hx 2 (by omega))
  have p3 := hcx 3 _ (take5_at hx 3 (by omega))
  have p4 := hcx 4 _ (take5_at hx 4 (by omega))
  rw [Nat.add_zero] at p0
  exact ⟨b, o, x1, x2, x3, y4, y5, m4, z4, m5, z5, hia, hbl, p0, p1, p2, p3, p4, NdV.of hnd⟩
theorem rDeepV (v : Value) (b : List UInt8) (w : World) (hv : IsB w v b) (hL : b.length ≤ 1000000) :
    Calls Tryz.prog 61 #[v] w (fun e w' => ∃ nv t, e = .returned (.tuple #[nv, .bool t]) ∧ NdV 60 w' nv (if treeOK 60 b then b else []) ∧ Below w.heap.size w w') := by
  by_cases ht : treeOK 60 b
  · refine (rDeep_yes v b w hv hL ht).mono fun e w' ⟨hb, c1, c2, c3, a4, a5, n4, k4, n5, k5, he, hn⟩ => ⟨_, true, he, ?_, hb⟩
    rw [if_pos ht]
    exact NdV.of hn
  · refine (rDeep_no v b w hv hL ht).mono fun e w' ⟨he, hb⟩ => ⟨_, false, he, ?_, hb⟩
    rw [if_neg ht]
    exact NdV.zero 60 w'
theorem kidsA_eq (b : List UInt8) : kidsT 59 (if treeOK 60 b then b else []) = kidsA b := by
  unfold kidsA
  split
  · rfl
  · exact kidsT_nil 59
end Go.Proofs.YtlmnmgokfnnbbaaGreatDoor
end

/- Walks over the reference's ReadRDN and Read. -/
section
set_option linter.unusedSimpArgs false
set_option linter.unusedVariables false
namespace Go.Proofs.YtlmnmgokfnnbbaaGreatDoor
open Go.RowKit Go.Cr
theorem rAttReadV {d : Nat} {nv : Value} {l : List UInt8} {w : World} (h : NdV (d + 1 + 1) w nv l) (hL : l.length ≤ 4000) : ∀ W, Below w.heap.size w W → Calls Tryz.prog 100 #[nv] W (RetAt (rdA (kidsT (d + 1) l)).1 (rdA (kidsT (d + 1) l)).2 W) := by
  obtain ⟨n0, hn0, hk0⟩ := rKid h 0
  have hc := (kidsT_cnt (d + 1) l).2
  have hg := getD_len (kidsT (d + 1) l) 0
  have hR := rRdObj hn0 (by omega)
  have hO := rOcts h (by omega)
  obtain ⟨c1, c2, c3, a4, a5, n4, k4, n5, k5, rfl⟩ := h.shape
  obtain ⟨x1, x2, x3, y4, y5, m4, z4, m5, z5, rfl⟩ := hn0.shape
  intro W hW
  exact rAttRead_step c1 c2 c3 a4 a5 n4 k4 n5 k5 x1 x2 x3 y4 y5 m4 z4 m5 z5 _ _ W (fun W' hb => hk0 W' (hW.trans (hb.mono hW.size))) (fun W' hb => hR W' (hW.trans (hb.mono hW.size))) (fun W' hb => hO W' (hW.trans (hb.mono hW.size)))
def RetRr (r : Rdn) (w : World) (e : Ending) (w' : World) : Prop := ∃ A k, e = .returned (.slice A r.length k) ∧ OwL repA (fun _ => True) w' w.heap.size 58 (.slice A r.length k) r ∧ Below w.heap.size w w'
def RrRel (ks : List (List UInt8)) (d : Nat) (w : World) (out ix : Value) (wr : World) : Prop := ∃ i : Nat, ix = .int .i64 (i : Int) ∧ i ≤ ks.length ∧ OwL repA (fun _ => True) wr w.heap.size 58 out ((ks.take i).map (rdX d)) ∧ Below w.heap.size w wr
set_option maxRecDepth 100000 in
set_option maxHeartbeats 8000000 in
theorem rReadRDN {d : Nat} (nv : Value) (l : List UInt8) (w : World) (hn : NdV (d + 1 + 1 + 1) w nv l) (hL : l.length ≤ 4000) : Calls Tryz.prog 62 #[nv] w (RetRr ((kidsT (d + 1 + 1) l).map (rdX (d + 1))) w) := by
  obtain ⟨c1, c2, c3, a4, a5, n4, k4, k5, rfl, ⟨xs, hrow⟩, hk⟩ := hn.row
  have hcnt := kidsT_cnt (d + 1 + 1) l
  have hfl : ∀ i, ((kidsT (d + 1 + 1) l).getD i []).length ≤ 4000 := fun i => by
    have := getD_len (kidsT (d + 1 + 1) l) i
    omega
  have hlen := hrow.len (P := Tryz.prog) ulNodes
  have hcl : (kidsT (d + 1 + 1) l).length ≤ 4000 := by omega
  have HK := Lib.hid hk
  have HFL := Lib.hid hfl
  clear hk hfl hn hrow hL hcnt
  generalize kidsT (d + 1 + 1) l = ks at *
  have hnI : (ks.length : Int) ≤ 4000 := by omega
  go_enter Tryz.func62, Tryz.ntmps62
  go_wp2_with fail
  have HB0 := Lib.hid (Blk.new w 85 #[.int .i64 c1, .int .i64 c2, .bool c3, .slice a4 n4 k4, .slice a5 ks.length k5])
  have HW0 := Lib.hid ((Below.refl w.heap.size w).alloc (Nat.le_refl _) (.cells #[.int .i64 c1, .int .i64 c2, .bool c3, .slice a4 n4 k4, .slice a5 ks.length k5] 85))
  have lW0 := HB0.out.lt
  generalize w.alloc (.cells #[.int .i64 c1, .int .i64 c2, .bool c3, .slice a4 n4 k4, .slice a5 ks.length k5] 85) = w0 at *
  obtain ⟨i0, hi0, hz0, hz1, hz2⟩ := info_parts infoAtt
  go_loopw [3, 4] (fun out ix wr => RrRel ks (d + 1) w0 out ix wr) (fun _ ix _ => ks.length + 1 - (intOf ix).toNat)
  case atStart => exact ⟨0, rfl, Nat.zero_le _, OwL.nil_ _ _ _ _, Below.refl _ _⟩
  case round =>
    obtain ⟨i, rfl, hi, how, hbel⟩ := hrel
    have HOW := Lib.hid how
    have HBR := Lib.hid hbel
    have hszr := hbel.size
    have JB := HB0.out.below hbel lW0
    have qJ : wr.cell? ⟨w.heap.size, 4, none⟩ = some (.slice a5 ks.length k5) := (JB.q 4).trans rfl
    clear how JB
    by_cases hlt : i < ks.length
    · obtain ⟨b, o, x1, x2, x3, y4, y5, m4, z4, m5, z5, hi2, hl2, d0, d1, d2, d3, d4, hkv⟩ := HK.out i hlt
      have hwr : Below w.heap.size w wr := HW0.out.trans (hbel.mono (Nat.le_of_lt lW0))
      have hlk : ks[i].length ≤ 4000 := by have := HFL.out i; rwa [show ks.getD i [] = ks[i] by simp [hlt]] at this
      have HR := Lib.hid (rAttReadV hkv hlk wr hwr)
      have htk : (ks.take (i + 1)).map (rdX (d + 1)) = (ks.take i).map (rdX (d + 1)) ++ [rdX (d + 1) ks[i]] := by rw [List.take_succ_eq_append_getElem hlt, List.map_append]; rfl
      have hrd : rdX (d + 1) ks[i] = (bStr (rdA (kidsT (d + 1) ks[i])).1, (rdA (kidsT (d + 1) ks[i])).2) := rfl
      rw [hrd] at htk
      obtain ⟨ss, hss⟩ : ∃ ss, (rdA (kidsT (d + 1) ks[i])).1 = ss := ⟨_, rfl⟩
      obtain ⟨ll, hll⟩ : ∃ ll, (rdA (kidsT (d + 1) ks[i])).2 = ll := ⟨_, rfl⟩
      rw [hss, hll] at htk HR
      unfold RetAt at HR
      have HTK := Lib.hid htk
      have hltI : (i : Int) < ks.length := by omega
      have hllen : ((ks.take i).map (rdX (d + 1))).length ≤ 4000 := by rw [List.length_map, List.length_take]; omega
      have HLL := Lib.hid hllen
      have g0 := (hwr.cell (p := ⟨b, o, none⟩) hl2).trans d0
      have g1 := (hwr.cell (p := ⟨b, o + 1, none⟩) hl2).trans d1
      have g2 := (hwr.cell (p := ⟨b, o + 2, none⟩) hl2).trans d2
      have g3 := (hwr.cell (p := ⟨b, o + 3, none⟩) hl2).trans d3
      have g4 := (hwr.cell (p := ⟨b, o + 4, none⟩) hl2).trans d4
      clear hkv d0 d1 d2 d3 d4 hbel htk hrd hllen hlk hwr hss hll
      generalize (ks.take i).map (rdX (d + 1)) = LL at *
      go_wp2_with (first | ((go_at_call 100); (with_reducible refine HR.out.mono ?_); rintro e w4 ⟨A4, k4', rfl, ho4, hbw4⟩; have HV4 := Lib.hid ((IsRS.of_own ho4).weak (S' := fun b => wr.heap.size ≤ b) (fun b _ hS => hS)); have HB4 := Lib.hid (HBR.out.trans (hbw4.mono hszr)); have HOW4 := Lib.hid (HOW.out.below hbw4); clear hbw4 ho4) | (at_builtin; refine wpList_appL (r := repA) (X := fun _ => True) _ rfl _ _ 30 rfl w0.heap.size 58 ulRdn hi0 hz0 hz1 hz2 rfl (by decide) _ LL rfl (HOW4.out.alloc _) _ [.string (bStr ss), .slice A4 ll.length k4'] (bStr ss, ll) rfl (isR_at rfl rfl) ⟨_, rfl, ?e1⟩ ?m1 ?m2 trivial ?_))
      case e1 => exact (HV4.out.alloc _).weak fun b hb hS => by first | exact ⟨⟨Nat.le_trans hszr hS, HOW.out.notNew hS⟩, trivial⟩ | exact ⟨Nat.le_trans hszr hS, HOW.out.notNew hS⟩
      case m1 => have := HLL.out; omega
      case m2 => have := HB4.out.size; simp; omega
      intro v8 w8 ho8 hb8 hg8
      have HO8 := Lib.hid ho8
      have HB8 := Lib.hid ((HB4.out.alloc HB4.out.size (.cells #[.string (bStr ss), .slice A4 ll.length k4'] 58)).trans hb8)
      clear ho8 hb8 hg8
      go_wp2
      go_roundw
      case rel => exact ⟨i + 1, by go_num, by omega, by rw [HTK.out]; exact HO8.out, HB8.out⟩
      case measure => simp [intOf]; omega
    · have hie : i = ks.length := by omega
      have how := HOW.out
      rw [hie, List.take_length] at how
      have HO := Lib.hid how
      have hge : (ks.length : Int) ≤ i := by omega
      obtain ⟨Ao, ko, hoe⟩ := how.slice
      rw [List.length_map] at hoe
      subst hoe
      clear how hie hlt hi hbel
      go_wp2_with fail
      go_ret
      have s0 := HW0.out.size
      refine ⟨Ao, ko, (by rw [List.length_map]; first | rfl | simp), ?_, HW0.out.trans (HBR.out.mono s0)⟩
      rw [List.length_map]
      exact HO.out.more s0
def RetRn (n : Nam) (w : World) (e : Ending) (w' : World) : Prop := ∃ A k, e = .returned (.slice A n.length k) ∧ OwL (repL repA) (fun _ => True) w' w.heap.size 30 (.slice A n.length k) n ∧ Below w.heap.size w w'
def RnRel (ks : List (List UInt8)) (f : List UInt8 → Rdn) (w : World) (out ix : Value) (wr : World) : Prop := ∃ i : Nat, ix = .int .i64 (i : Int) ∧ i ≤ ks.length ∧ OwL (repL repA) (fun _ => True) wr w.heap.size 30 out ((ks.take i).map f) ∧ Below w.heap.size w wr
set_option maxRecDepth 100000 in
set_option maxHeartbeats 8000000 in
theorem rReadNm {d : Nat} (nv : Value) (l : List UInt8) (w : World) (hn : NdV (d + 1 + 1 + 1 + 1) w nv l) (hL : l.length ≤ 4000) : Calls Tryz.prog 64 #[nv] w (RetRn ((kidsT (d + 1 + 1 + 1) l).map (fun k => (kidsT (d + 1 + 1) k).map (rdX (d + 1)))) w) := by
  obtain ⟨c1, c2, c3, a4, a5, n4, k4, k5, rfl, ⟨xs, hrow⟩, hk⟩ := hn.row
  have hcnt := kidsT_cnt (d + 1 + 1 + 1) l
  have hfl : ∀ i, ((kidsT (d + 1 + 1 + 1) l).getD i []).length ≤ 4000 := fun i => by
    have := getD_len (kidsT (d + 1 + 1 + 1) l) i
    omega
  have hlen := hrow.len (P := Tryz.prog) ulNodes
  have hcl : (kidsT (d + 1 + 1 + 1) l).length ≤ 4000 := by omega
  have HK := Lib.hid hk
  have HFL := Lib.hid hfl
  clear hk hfl hn hrow hL hcnt
  generalize kidsT (d + 1 + 1 + 1) l = ks at *
  obtain ⟨F, hF⟩ : ∃ F : List UInt8 → Rdn, (fun k => (kidsT (d + 1 + 1) k).map (rdX (d + 1))) = F := ⟨_, rfl⟩
  rw [hF]
  have HF : Hid (∀ k, (kidsT (d + 1 + 1) k).map (rdX (d + 1)) = F k) := Lib.hid (fun k => by rw [← hF])
  clear hF
  have hnI : (ks.length : Int) ≤ 4000 := by omega
  go_enter Tryz.func64, Tryz.ntmps64
  go_wp2_with fail
  have HB0 := Lib.hid (Blk.new w 85 #[.int .i64 c1, .int .i64 c2, .bool c3, .slice a4 n4 k4, .slice a5 ks.length k5])
  have HW0 := Lib.hid ((Below.refl w.heap.size w).alloc (Nat.le_refl _) (.cells #[.int .i64 c1, .int .i64 c2, .bool c3, .slice a4 n4 k4, .slice a5 ks.length k5] 85))
  have lW0 := HB0.out.lt
  generalize w.alloc (.cells #[.int .i64 c1, .int .i64 c2, .bool c3, .slice a4 n4 k4, .slice a5 ks.length k5] 85) = w0 at *
  obtain ⟨i0, hi0, hz0, hz1, hz2⟩ := info_parts infoRdn
  go_loopw [3, 4] (fun out ix wr => RnRel ks F w0 out ix wr) (fun _ ix _ => ks.length + 1 - (intOf ix).toNat)
  case atStart => exact ⟨0, rfl, Nat.zero_le _, OwL.nil_ _ _ _ _, Below.refl _ _⟩
  case round =>
    obtain ⟨i, rfl, hi, how, hbel⟩ := hrel
    have HOW := Lib.hid how
    have HBR := Lib.hid hbel
    have hszr := hbel.size
    have JB := HB0.out.below hbel lW0
    have qJ : wr.cell? ⟨w.heap.size, 4, none⟩ = some (.slice a5 ks.length k5) := (JB.q 4).trans rfl
    clear how JB
    by_cases hlt : i < ks.length
    · obtain ⟨b, o, x1, x2, x3, y4, y5, m4, z4, m5, z5, hi2, hl2, d0, d1, d2, d3, d4, hkv⟩ := HK.out i hlt
      have hwr : Below w.heap.size w wr := HW0.out.trans (hbel.mono (Nat.le_of_lt lW0))
      have hlk : ks[i].length ≤ 4000 := by have := HFL.out i; rwa [show ks.getD i [] = ks[i] by simp [hlt]] at this
      have HR := Lib.hid (rReadRDN _ _ wr (hkv.below hwr) hlk)
      rw [HF.out] at HR
      have htk : (ks.take (i + 1)).map F = (ks.take i).map F ++ [F ks[i]] := by rw [List.take_succ_eq_append_getElem hlt, List.map_append]; rfl
      generalize F ks[i] = r at *
      unfold RetRr at HR
      have HTK := Lib.hid htk
      have hltI : (i : Int) < ks.length := by omega
      have hllen : ((ks.take i).map F).length ≤ 4000 := by rw [List.length_map, List.length_take]; omega
      have HLL := Lib.hid hllen
      have g0 := (hwr.cell (p := ⟨b, o, none⟩) hl2).trans d0
      have g1 := (hwr.cell (p := ⟨b, o + 1, none⟩) hl2).trans d1
      have g2 := (hwr.cell (p := ⟨b, o + 2, none⟩) hl2).trans d2
      have g3 := (hwr.cell (p := ⟨b, o + 3, none⟩) hl2).trans d3
      have g4 := (hwr.cell (p := ⟨b, o + 4, none⟩) hl2).trans d4
      clear hkv d0 d1 d2 d3 d4 hbel htk hllen hlk hwr
      generalize (ks.take i).map F = LL at *
      go_wp2_with (first | ((go_at_call 62); (with_reducible refine HR.out.mono ?_); rintro e w4 ⟨A4, k4', rfl, ho4, hbw4⟩; have HV4 := Lib.hid ho4.isL; have HB4 := Lib.hid (HBR.out.trans (hbw4.mono hszr)); have HOW4 := Lib.hid (HOW.out.below hbw4); clear hbw4 ho4) | (at_builtin; refine wpList_appL (r := repL repA) (X := fun _ => True) _ rfl _ _ 23 rfl w0.heap.size 30 ulNam hi0 hz0 hz1 hz2 rfl (by decide) _ LL rfl (HOW4.out.alloc _) _ [.slice A4 r.length k4'] r rfl (isR_at rfl rfl) ⟨_, rfl, ?e1⟩ ?m1 ?m2 trivial ?_))
      case e1 => exact (HV4.out.weak fun b hb hS => ⟨⟨by have := hS.1; omega, HOW.out.notNew hS.1⟩, trivial⟩).alloc _
      case m1 => have := HLL.out; omega
      case m2 => have := HB4.out.size; simp; omega
      intro v8 w8 ho8 hb8 hg8
      have HO8 := Lib.hid ho8
      have HB8 := Lib.hid ((HB4.out.alloc HB4.out.size (.cells #[.slice A4 r.length k4'] 30)).trans hb8)
      clear ho8 hb8 hg8
      go_wp2
      go_roundw
      case rel => exact ⟨i + 1, by go_num, by omega, by rw [HTK.out]; exact HO8.out, HB8.out⟩
      case measure => simp [intOf]; omega
    · have hie : i = ks.length := by omega
      have how := HOW.out
      rw [hie, List.take_length] at how
      have HO := Lib.hid how
      have hge : (ks.length : Int) ≤ i := by omega
      obtain ⟨Ao, ko, hoe⟩ := how.slice
      rw [List.length_map] at hoe
      subst hoe
      clear how hie hlt hi hbel
      go_wp2_with fail
      go_ret
      have s0 := HW0.out.size
      refine ⟨Ao, ko, (by rw [List.length_map]; first | rfl | simp), ?_, HW0.out.trans (HBR.out.mono s0)⟩
      rw [List.length_map]
      exact HO.out.more s0
end Go.Proofs.YtlmnmgokfnnbbaaGreatDoor
end

/- Walks over the reference's ParseRDN and Parse; how great what is read can be. -/
section
set_option linter.unusedSimpArgs false
set_option linter.unusedVariables false
namespace Go.Proofs.YtlmnmgokfnnbbaaGreatDoor
open Go.RowKit Go.Cr
theorem encO_leD (c n : Int) (k : Bool) (l : List UInt8) : (encO c k n l).length ≤ l.length + 10 := by
  rw [encO_len]
  have := (lenOct_len l.length).2
  omega
theorem marX_le {a : At} {y : List UInt8} (h : marX a = some y) : ∃ c, oidE a.1.data.toList = some c ∧ y.length ≤ c.length + a.2.length + 20 := by
  obtain ⟨c, hc, _, hb⟩ := marA_some h
  refine ⟨c, hc, ?_⟩
  have h1 := encO_leD 0 16 true (encO 0 false 6 c ++ a.2)
  have h2 := encO_leD 0 6 false c
  rw [List.length_append] at h1
  rw [hb]
  omega
theorem rdX_le {d : Nat} {k y : List UInt8} (h : marX (rdX d k) = some y) : y.length ≤ 2 * k.length + 25 := by
  obtain ⟨c, hc, hy⟩ := marX_le h
  have hf := (kidsT_cnt d k).2
  have g0 := getD_len (kidsT d k) 0
  have g1 := getD_len (kidsT d k) 1
  have hk := kidC_len ((kidsT d k).getD 0 [])
  have e1 : (rdX d k).1.data.toList = ((oidD (kidC ((kidsT d k).getD 0 []))).getD []) := bST_list _
  have e2 : (rdX d k).2 = (kidsT d k).getD 1 [] := rfl
  rw [e1] at hc
  rw [e2] at hy
  cases ho : oidD (kidC ((kidsT d k).getD 0 [])) with
  | none =>
    rw [ho] at hc
    have := oidE_len hc
    simp at this
    omega
  | some s =>
    rw [ho, Option.getD_some] at hc
    have h3 := (oid_iff _ _).1 ho
    rw [hc] at h3
    injection h3 with h3
    rw [h3] at hy
    omega
theorem rdX_sz (d : Nat) (k : List UInt8) : (rdX d k).1.size ≤ 21 * (k.length + 1) ∧ (rdX d k).2.length ≤ k.length := by
  have hf := (kidsT_cnt d k).2
  have g0 := getD_len (kidsT d k) 0
  have g1 := getD_len (kidsT d k) 1
  have hk := kidC_len ((kidsT d k).getD 0 [])
  have e0 : ∀ s : List UInt8, (bST s).size = s.length := fun s => by show s.toArray.size = _; simp
  have e1 : (rdX d k).1.size = ((oidD (kidC ((kidsT d k).getD 0 []))).getD []).length := e0 _
  have e2 : (rdX d k).2 = (kidsT d k).getD 1 [] := rfl
  rw [e1, e2]
  refine ⟨?_, by omega⟩
  cases ho : oidD (kidC ((kidsT d k).getD 0 [])) with
  | none => simp
  | some s => have := oidD_len ho; simp only [Option.getD_some]; omega
theorem optL_flat {α : Type} {f : α → Option (List UInt8)} {h : List UInt8 → α} {a c : Nat} : ∀ {ks ps : List (List UInt8)}, optL f (ks.map h) = some ps → (∀ k ∈ ks, ∀ y, f (h k) = some y → y.length ≤ a * k.length + c) → ps.flatten.length ≤ a * ks.flatten.length + c * ks.length
  | [], ps, ho, _ => by injection ho with ho; subst ho; simp
  | x :: t, ps, ho, hb => by
    obtain ⟨b, u, h1, h2, rfl⟩ := optL_cons ho
    have h3 := hb x (by simp) b h1
    have h4 := optL_flat h2 fun k hk => hb k (by simp [hk])
    simp only [List.flatten_cons, List.length_append, List.length_cons, Nat.mul_add] at *
    omega
theorem szR_kids (d : Nat) {ks : List (List UInt8)} (h1 : ks.length ≤ 4000) (h2 : ks.flatten.length ≤ 4000) : SzR (ks.map (rdX d)) := by
  refine ⟨by rw [List.length_map]; omega, fun a ha => ?_, fun ps hp => ?_⟩
  · obtain ⟨k, hk, rfl⟩ := List.mem_map.1 ha
    have h3 := mem_flat_len hk
    have h4 := rdX_sz d k
    omega
  · have := optL_flat (a := 2) (c := 25) hp fun k _ y hy => rdX_le hy
    omega
theorem marR_kids_le (d : Nat) {ks : List (List UInt8)} {y : List UInt8} (h : marR (ks.map (rdX d)) = some y) : y.length ≤ 2 * ks.flatten.length + 25 * ks.length + 10 := by
  obtain ⟨ps, hp, _, _, rfl⟩ := marR_some h
  have h1 := optL_flat (a := 2) (c := 25) hp fun k _ y hy => rdX_le hy
  have h2 := encO_leD 0 17 true ps.flatten
  unfold conB
  omega
theorem szN_kids (d : Nat) {ks : List (List UInt8)} (h1 : ks.length ≤ 4000) (h2 : ks.flatten.length ≤ 4000) : SzNm (ks.map fun k => (kidsT d k).map (rdX (d - 1))) := by
  refine ⟨by rw [List.length_map]; omega, fun r hr => ?_, fun ps hp => ?_⟩
  · obtain ⟨k, hk, rfl⟩ := List.mem_map.1 hr
    have h3 := mem_flat_len hk
    have h4 := kidsT_cnt d k
    exact szR_kids _ (by omega) (by omega)
  · have := optL_flat (a := 27) (c := 10) hp fun k _ y hy => by
      have h5 := marR_kids_le _ hy
      have h4 := kidsT_cnt d k
      omega
    omega
theorem szN_rd {b : List UInt8} (hL : b.length ≤ 4000) : SzNm (rdN0 b) := by
  have h := kidsA_cnt b
  exact szN_kids 58 (by omega) (by omega)

def RetDr (r : Option Rdn) (w : World) (e : Ending) (w' : World) : Prop := Below w.heap.size w w' ∧ match r with
  | none => e = .returned (.tuple #[.slice none 0 0, .bool false])
  | some r => ∃ A k, e = .returned (.tuple #[.slice A r.length k, .bool true]) ∧ IsQs w' (.slice A r.length k) r
def RetDn (r : Option Nam) (w : World) (e : Ending) (w' : World) : Prop := Below w.heap.size w w' ∧ match r with
  | none => e = .returned (.tuple #[.slice none 0 0, .bool false])
  | some r => ∃ A k, e = .returned (.tuple #[.slice A r.length k, .bool true]) ∧ IsNm w' (.slice A r.length k) r
def RetDDn (r : Nam) (w : World) (e : Ending) (w' : World) : Prop := Below w.heap.size w w' ∧ ∃ (c1 c2 : Int) (c3 : Bool) (a4 a5 : Option Addr) (n4 k4 n5 k5 : Nat) (t : Bool),
  e = .returned (.tuple #[.agg #[.int .i64 c1, .int .i64 c2, .bool c3, .slice a4 n4 k4, .slice a5 n5 k5], .bool t]) ∧
    ∀ W, Below w'.heap.size w' W → Calls Tryz.prog 64 #[.agg #[.int .i64 c1, .int .i64 c2, .bool c3, .slice a4 n4 k4, .slice a5 n5 k5]] W (RetRn r W)
theorem rDeepDn (v : Value) (b : List UInt8) (w : World) (hv : IsB w v b) (hL : b.length ≤ 4000) : Calls Tryz.prog 61 #[v] w (RetDDn (rdN0 b) w) := by
  refine (rDeepV v b w hv (by omega)).mono fun e w' ⟨nv, t, he, hn, hb⟩ => ?_
  obtain ⟨c1, c2, c3, a4, a5, n4, k4, n5, k5, hs⟩ := hn.shape
  subst hs
  refine ⟨hb, c1, c2, c3, a4, a5, n4, k4, n5, k5, t, he, fun W hW => ?_⟩
  have := rReadNm (d := 56) _ _ W (hn.below hW) (by split; exact hL; simp)
  rw [kidsA_eq] at this
  exact this
set_option maxRecDepth 100000 in
set_option maxHeartbeats 8000000 in
theorem rParNm (v : Value) (b : List UInt8) (w : World) (hv : IsB w v b) (hL : b.length ≤ 4000) : Calls Tryz.prog 38 #[v] w (RetDn (rparNm b) w) := by
  have HD := Lib.hid (fun W (h : IsB W v b) => rDeepDn v b W h hL)
  unfold RetDDn at HD
  have HV := Lib.hid hv
  have hz := szN_rd hL
  have hp : rparNm b = if marNm (rdN0 b) = some b then some (rdN0 b) else none := rfl
  rw [hp]
  have HBy := Lib.hid (fun W u x (h : IsB W u x) (h2 : IsB W v b) => bytes_any u v x b W h h2)
  generalize rdN0 b = ms at *
  have HM0 := Lib.hid (fun W u (h : IsNm W u ms) => rMarshalNm u ms W h hz)
  cases hm : marNm ms with
  | none =>
    rw [if_neg (by simp)]
    have HM : Hid (∀ W u, IsNm W u ms → Calls Tryz.prog 34 #[u] W (RetB (.tuple #[.slice none 0 0, .int .i64 8]) W)) := fun W u h => (HM0.out W u h).mono fun e w' hh => by rw [hm] at hh; exact hh.no
    obtain ⟨A, k, rfl⟩ := isB_slice hv
    clear hv hL hz hp hm HBy HM0
    go_enter Tryz.func38, Tryz.ntmps38
    go_wp2_with (first | ((go_at_call 61); (with_reducible refine (HD.out _ HV.out).mono ?_); rintro e w1 ⟨hbw1, c1, c2, c3, a4, a5, n4, k4, n5, k5, t, rfl, hrd⟩; have HRD := Lib.hid hrd; have HB1 := Lib.hid hbw1; clear hrd hbw1) | ((go_at_call 64); (with_reducible refine (HRD.out _ ((Below.refl _ w1).alloc (Nat.le_refl _) _)).mono ?_); rintro e w2 ⟨A2, k2, rfl, ho2, hbw2⟩; have HB2 := Lib.hid ((HB1.out.alloc HB1.out.size _).trans (hbw2.mono (by have := HB1.out.size; simp; omega))); have HO2 := Lib.hid (isNm_of ho2.isL); clear ho2 hbw2) | ((go_at_call 34); (with_reducible refine (HM.out _ _ HO2.out).mono ?_); rintro e w3 ⟨rfl, hbw3⟩; have HB3 := Lib.hid (HB2.out.trans (hbw3.mono HB2.out.size)); clear hbw3))
    go_ret2
    exact ⟨HB3.out, rfl⟩
  | some c =>
    have HM : Hid (∀ W u, IsNm W u ms → Calls Tryz.prog 34 #[u] W (RetOidY c W)) := fun W u h => (HM0.out W u h).mono fun e w' hh => by rw [hm] at hh; exact hh.yes
    clear HM0 hm
    by_cases hcb : c = b
    · rw [if_pos (by rw [hcb])]
      have HBt : Hid (∀ W u, IsB W u c → IsB W v b → Calls Tryz.prog 28 #[u, v] W (RetB (.bool true) W)) := fun W u h h2 => by
        have := HBy.out W u c h h2
        rwa [decide_eq_true hcb] at this
      obtain ⟨A, k, rfl⟩ := isB_slice hv
      clear hv hL hz hp HBy hcb
      go_enter Tryz.func38, Tryz.ntmps38
      go_wp2_with (first | ((go_at_call 61); (with_reducible refine (HD.out _ HV.out).mono ?_); rintro e w1 ⟨hbw1, c1, c2, c3, a4, a5, n4, k4, n5, k5, t, rfl, hrd⟩; have HRD := Lib.hid hrd; have HB1 := Lib.hid hbw1; clear hrd hbw1) | ((go_at_call 64); (with_reducible refine (HRD.out _ ((Below.refl _ w1).alloc (Nat.le_refl _) _)).mono ?_); rintro e w2 ⟨A2, k2, rfl, ho2, hbw2⟩; have HB2 := Lib.hid ((HB1.out.alloc HB1.out.size _).trans (hbw2.mono (by have := HB1.out.size; simp; omega))); have HO2 := Lib.hid (isNm_of ho2.isL); clear ho2 hbw2) | ((go_at_call 34); (with_reducible refine (HM.out _ _ HO2.out).mono ?_); rintro e w3 ⟨v3, rfl, ho3, hbw3⟩; obtain ⟨A3, k3, rfl⟩ := isB_slice ho3.isB; have HB3 := Lib.hid (HB2.out.trans (hbw3.mono HB2.out.size)); have HV3 := Lib.hid ho3.isB; have HO3 := Lib.hid (HO2.out.below hbw3); clear hbw3 ho3) | ((go_at_call 28); (with_reducible refine (HBt.out _ _ HV3.out (HV.out.below HB3.out)).mono ?_); rintro e w4 ⟨rfl, hbw4⟩; have HB4 := Lib.hid (HB3.out.trans (hbw4.mono HB3.out.size)); have HO4 := Lib.hid (HO3.out.below hbw4); clear hbw4))
      go_ret2
      exact ⟨HB4.out, A2, k2, rfl, HO4.out⟩
    · rw [if_neg (fun h => hcb (Option.some.inj h))]
      have HBf : Hid (∀ W u, IsB W u c → IsB W v b → Calls Tryz.prog 28 #[u, v] W (RetB (.bool false) W)) := fun W u h h2 => by
        have := HBy.out W u c h h2
        rwa [decide_eq_false hcb] at this
      obtain ⟨A, k, rfl⟩ := isB_slice hv
      clear hv hL hz hp HBy hcb
      go_enter Tryz.func38, Tryz.ntmps38
      go_wp2_with (first | ((go_at_call 61); (with_reducible refine (HD.out _ HV.out).mono ?_); rintro e w1 ⟨hbw1, c1, c2, c3, a4, a5, n4, k4, n5, k5, t, rfl, hrd⟩; have HRD := Lib.hid hrd; have HB1 := Lib.hid hbw1; clear hrd hbw1) | ((go_at_call 64); (with_reducible refine (HRD.out _ ((Below.refl _ w1).alloc (Nat.le_refl _) _)).mono ?_); rintro e w2 ⟨A2, k2, rfl, ho2, hbw2⟩; have HB2 := Lib.hid ((HB1.out.alloc HB1.out.size _).trans (hbw2.mono (by have := HB1.out.size; simp; omega))); have HO2 := Lib.hid (isNm_of ho2.isL); clear ho2 hbw2) | ((go_at_call 34); (with_reducible refine (HM.out _ _ HO2.out).mono ?_); rintro e w3 ⟨v3, rfl, ho3, hbw3⟩; obtain ⟨A3, k3, rfl⟩ := isB_slice ho3.isB; have HB3 := Lib.hid (HB2.out.trans (hbw3.mono HB2.out.size)); have HV3 := Lib.hid ho3.isB; have HO3 := Lib.hid (HO2.out.below hbw3); clear hbw3 ho3) | ((go_at_call 28); (with_reducible refine (HBf.out _ _ HV3.out (HV.out.below HB3.out)).mono ?_); rintro e w4 ⟨rfl, hbw4⟩; have HB4 := Lib.hid (HB3.out.trans (hbw4.mono HB3.out.size)); clear hbw4))
      go_ret2
      exact ⟨HB4.out, rfl⟩
end Go.Proofs.YtlmnmgokfnnbbaaGreatDoor
end

/- Walks over the reference's FewRDN and Few. -/
section
set_option linter.unusedSimpArgs false
set_option linter.unusedVariables false
namespace Go.Cr
open Go.RowKit
def sumV (r : Rdn) : Nat := (r.map fun a => a.2.length).sum
theorem sumV_succ (r : Rdn) {i : Nat} (h : i < r.length) : sumV (r.take (i + 1)) = sumV (r.take i) + r[i].2.length := by
  unfold sumV
  rw [List.take_succ_eq_append_getElem h, List.map_append, List.sum_append]
  simp
def FewA (a : At) : Prop := a.1.size ≤ 200 ∧ a.2.length ≤ 1000
theorem sumV_le {r : Rdn} {i : Nat} (h : ∀ j, j < i → FewA (r.getD j default)) (hi : i ≤ r.length) : sumV (r.take i) ≤ i * 1000 := by
  induction i with
  | zero => simp [sumV]
  | succ k ih =>
    have h1 := ih (fun j hj => h j (by omega)) (by omega)
    have h2 := (h k (by omega)).2
    have h3 : r.getD k default = r[k] := by simp [show k < r.length by omega]
    rw [h3] at h2
    rw [sumV_succ r (by omega)]
    omega
def BdR (M : Nat) (r : Rdn) : Prop := ∀ a ∈ r, a.1.size ≤ M ∧ a.2.length ≤ M
def BdNm (M : Nat) (n : Nam) : Prop := ∀ r ∈ n, BdR M r
def FwR (r : Rdn) : Prop := r.length ≤ 8 ∧ (∀ a ∈ r, FewA a) ∧ sumV r ≤ 2000
def sumN (n : Nam) : Nat := (n.map sumV).sum
theorem sumN_succ (n : Nam) {i : Nat} (h : i < n.length) : sumN (n.take (i + 1)) = sumN (n.take i) + sumV n[i] := by
  unfold sumN
  rw [List.take_succ_eq_append_getElem h, List.map_append, List.sum_append]
  simp
def FwNm (n : Nam) : Prop := n.length ≤ 10 ∧ (∀ r ∈ n, FwR r) ∧ sumN n ≤ 2000
theorem all_getDx {α : Type} [Inhabited α] {P : α → Prop} {l : List α} (h : ∀ j, j < l.length → P (l.getD j default)) : ∀ a ∈ l, P a := fun a ha => by
  obtain ⟨j, hj, rfl⟩ := List.mem_iff_getElem.1 ha
  have := h j hj
  simpa [hj] using this
theorem wr64d {x : Int} (h0 : 0 ≤ x) (h1 : x ≤ 9223372036854775807) : IntKind.i64.wrap x = x := by rw [IntKind.wrap_i64]; omega
theorem sumN_le {n : Nam} {i : Nat} (h : ∀ j, j < i → FwR (n.getD j [])) (hi : i ≤ n.length) : sumN (n.take i) ≤ i * 2000 := by
  induction i with
  | zero => simp [sumN]
  | succ k ih =>
    have h1 := ih (fun j hj => h j (by omega)) (by omega)
    have h2 := (h k (by omega)).2.2
    have h3 : n.getD k [] = n[k] := by simp [show k < n.length by omega]
    rw [h3] at h2
    rw [sumN_succ n (by omega)]
    omega
theorem FwR.le {r : Rdn} (h : FwR r) {k : Nat} (hk : k ≤ r.length) : sumV (r.take k) ≤ k * 1000 := by
  refine sumV_le (fun j hj => ?_) hk
  have hj2 : j < r.length := by omega
  have : r.getD j default = r[j] := by simp [hj2]
  rw [this]
  exact h.2.1 _ (List.getElem_mem hj2)
end Go.Cr
namespace Go.Proofs.YtlmnmgokfnnbbaaGreatDoor
open Go.RowKit Go.Cr
def RetFr (r : Rdn) (w : World) (e : Ending) (w' : World) : Prop := ∃ b : Bool, e = .returned (.bool b) ∧ (b = true → FwR r) ∧ Below w.heap.size w w'
def FrRel (r : Rdn) (w : World) (nv ix : Value) (wr : World) : Prop := ∃ i n : Nat, ix = .int .i64 (i : Int) ∧ nv = .int .i64 (n : Int) ∧ n = sumV (r.take i) ∧ i ≤ r.length ∧ i ≤ 10 ∧ (∀ j, j < i → FewA (r.getD j default)) ∧ Below w.heap.size w wr
set_option maxRecDepth 100000 in
set_option maxHeartbeats 8000000 in
theorem rFewRDN (v : Value) (r : Rdn) (w : World) (hv : IsQs w v r) (hM : BdR 140737488351232 r) : Calls Tryz.prog 23 #[v] w (RetFr r w) := by
  have hlen := hv.len (P := Tryz.prog) ulRdn
  have hmx := hv.maxl
  have HV := Lib.hid hv
  have HM := Lib.hid hM
  obtain ⟨A, c, rfl⟩ := isQs_slice hv
  clear hv hM
  go_enter Tryz.func23, Tryz.ntmps23
  go_wp2_with fail
  go_loopw [3, 4] (fun nv ix wr => FrRel r w nv ix wr) (fun _ ix _ => r.length + 1 - (intOf ix).toNat)
  case atStart => exact ⟨0, 0, rfl, rfl, rfl, Nat.zero_le _, by omega, fun j h => by omega, Below.refl _ _⟩
  case round =>
    obtain ⟨i, n, rfl, rfl, hn, hi, hi10, hall, hbel⟩ := hrel
    have HN := Lib.hid hn
    have HALL := Lib.hid hall
    have HB := Lib.hid hbel
    have hnb : n ≤ 10000 := by rw [hn]; have := sumV_le hall hi; omega
    clear hn hall
    by_cases hlt : i < r.length
    · have hltI : (i : Int) < r.length := by omega
      by_cases h10 : i < 10
      · have h10I : (i : Int) < 10 := by omega
        obtain ⟨b, o, A2, k2, hi2, hl2, hc2, hd2, hIB⟩ := HV.out.at_ (P := Tryz.prog) ulRdn szAtt .i64 i hlt
        have hz := HM.out _ (List.getElem_mem hlt)
        have g0 := (hbel.cell (p := ⟨b, o, none⟩) hl2).trans hc2
        have g1 := (hbel.cell (p := ⟨b, o + 1, none⟩) hl2).trans hd2
        have HIB := Lib.hid (hIB.below hbel)
        have hbl := hIB.len (P := Tryz.prog) ulB
        have HF := Lib.hid (fun W (h : IsB W (.slice A2 r[i].2.length k2) r[i].2) => rFewAttr r[i].1 _ r[i].2 W h (by omega))
        have hga : r.getD i default = r[i] := by simp [hlt]
        have HGA := Lib.hid hga
        have HSU := Lib.hid (sumV_succ r hlt)
        clear hc2 hd2 hIB hz hga hbel
        by_cases hf : r[i].1.size ≤ 200 ∧ r[i].2.length ≤ 1000
        · rw [decide_eq_true hf] at HF
          have hf2 := hf.2
          have HFA := Lib.hid hf
          clear hf
          generalize r[i] = a at *
          obtain ⟨s, l⟩ := a
          simp only at HF g0 g1 HIB hbl hf2 HSU
          have hsum : IntKind.i64.wrap ((n : Int) + (l.length : Int)) = (n : Int) + (l.length : Int) := wr64d (by omega) (by omega)
          obtain ⟨n2, hn2⟩ : ∃ n2 : Nat, n2 = n + l.length := ⟨_, rfl⟩
          have hs2 : (n : Int) + (l.length : Int) = (n2 : Int) := by omega
          rw [hs2] at hsum
          have HN2 := Lib.hid hn2
          clear hn2
          go_wp2_with (((go_at_call 49); (with_reducible refine (HF.out _ HIB.out).mono ?_); rintro e w1 ⟨rfl, hb1⟩; have g1' := (hb1.cell (p := ⟨b, o + 1, none⟩) (Nat.lt_of_lt_of_le hl2 HB.out.size)).trans g1; have HB1 := Lib.hid (HB.out.trans (hb1.mono HB.out.size)); clear hb1))
          go_roundw
          case rel =>
            refine ⟨i + 1, n2, by go_num, by first | rfl | exact congrArg (Value.int .i64) hsum | (rw [← hs2]; rfl), by rw [HSU.out, HN2.out, HN.out], by omega, by omega, fun j hj => ?_, HB1.out⟩
            by_cases hji : j < i
            · exact HALL.out j hji
            · obtain rfl : j = i := by omega
              rw [HGA.out]
              exact HFA.out
          case measure => simp [intOf]; omega
        · rw [decide_eq_false hf] at HF
          clear hf
          generalize r[i] = a at *
          obtain ⟨s, l⟩ := a
          simp only at HF g0 g1 HIB hbl HSU
          go_wp2_with (((go_at_call 49); (with_reducible refine (HF.out _ HIB.out).mono ?_); rintro e w1 ⟨rfl, hb1⟩; have HB1 := Lib.hid (HB.out.trans (hb1.mono HB.out.size)); clear hb1))
          go_ret
          exact ⟨false, rfl, (fun h => by cases h), HB1.out⟩
      · have h10I : (10 : Int) ≤ i := by omega
        have h8 : (8 : Int) < r.length := by omega
        clear h10 hlt hi
        go_wp2_with fail
        go_ret
        exact ⟨false, by first | rfl | simp [*], (fun h => by cases h), HB.out⟩
    · have hge : (r.length : Int) ≤ i := by omega
      have hie : i = r.length := by omega
      have hfull : n = sumV r := by rw [HN.out, hie, List.take_length]
      by_cases hA : r.length ≤ 8
      · have hAI : (r.length : Int) ≤ 8 := by omega
        by_cases hB : n ≤ 2000
        · have hBI : (n : Int) ≤ 2000 := by omega
          have hR := Lib.hid (show FwR r from ⟨hA, all_getDx fun j hj => HALL.out j (by omega), by omega⟩)
          clear hlt hi hA hB hie hfull
          go_wp2_with fail
          go_ret
          exact ⟨true, by first | rfl | simp [*], fun _ => hR.out, HB.out⟩
        · have hBI : (2000 : Int) < n := by omega
          clear hlt hi hA hB hie hfull
          go_wp2_with fail
          go_ret
          exact ⟨false, by first | rfl | simp [*], (fun h => by cases h), HB.out⟩
      · have hAI : (8 : Int) < r.length := by omega
        clear hlt hi hA hie hfull
        go_wp2_with fail
        go_ret
        exact ⟨false, by first | rfl | simp [*], (fun h => by cases h), HB.out⟩
def RetFnm (n : Nam) (w : World) (e : Ending) (w' : World) : Prop := ∃ b : Bool, e = .returned (.bool b) ∧ (b = true → FwNm n) ∧ Below w.heap.size w w'
def FnRel (x : Nam) (w : World) (nv ix : Value) (wr : World) : Prop := ∃ i n : Nat, ix = .int .i64 (i : Int) ∧ nv = .int .i64 (n : Int) ∧ n = sumN (x.take i) ∧ i ≤ x.length ∧ i ≤ 20 ∧ (∀ j, j < i → FwR (x.getD j [])) ∧ Below w.heap.size w wr
def FkRel (r : Rdn) (n0 : Nat) (w : World) (nv kx : Value) (wr : World) : Prop := ∃ k n : Nat, kx = .int .i64 (k : Int) ∧ nv = .int .i64 (n : Int) ∧ n = n0 + sumV (r.take k) ∧ k ≤ r.length ∧ Below w.heap.size w wr
set_option maxRecDepth 100000 in
set_option maxHeartbeats 16000000 in
theorem rFewNm (v : Value) (x : Nam) (w : World) (hv : IsNm w v x) (hM : BdNm 140737488351232 x) : Calls Tryz.prog 15 #[v] w (RetFnm x w) := by
  have hlen := hv.len (P := Tryz.prog) ulNam
  have hmx := hv.maxl
  have HV := Lib.hid hv
  have HM := Lib.hid hM
  obtain ⟨A, c, rfl⟩ := isNm_slice hv
  clear hv hM
  go_enter Tryz.func15, Tryz.ntmps15
  go_wp2_with fail
  go_loopw [3, 4] (fun nv ix wr => FnRel x w nv ix wr) (fun _ ix _ => x.length + 1 - (intOf ix).toNat)
  case atStart => exact ⟨0, 0, rfl, rfl, rfl, Nat.zero_le _, by omega, fun j h => by omega, Below.refl _ _⟩
  case round =>
    obtain ⟨i, n, rfl, rfl, hn, hi, hi20, hall, hbel⟩ := hrel
    obtain ⟨wo, rfl⟩ : ∃ wo, wo = wr := ⟨_, rfl⟩
    have HN := Lib.hid hn
    have HALL := Lib.hid hall
    have HBR := Lib.hid hbel
    have hnb : n ≤ 40000 := by rw [hn]; have := sumN_le hall hi; omega
    clear hn hall
    by_cases hlt : i < x.length
    · have hltI : (i : Int) < x.length := by omega
      by_cases h20 : i < 20
      · have h20I : (i : Int) < 20 := by omega
        obtain ⟨b2, o2, A2, k2, hi2, hl2, hc2, hIR⟩ := HV.out.at_ (P := Tryz.prog) ulNam szRdn .i64 i hlt
        have hmem := HM.out _ (List.getElem_mem hlt)
        have hga : x.getD i [] = x[i] := by simp [hlt]
        have hsu := sumN_succ x hlt
        generalize x[i] = r at *
        have hrlen := hIR.len (P := Tryz.prog) ulRdn
        have h2o : wo.cell? ⟨b2, o2, none⟩ = some (.slice A2 r.length k2) := (hbel.cell (p := ⟨b2, o2, none⟩) hl2).trans hc2
        have HC2 := Lib.hid hc2
        have HIR := Lib.hid hIR
        have HGA := Lib.hid hga
        have HSU := Lib.hid hsu
        have hrmx := hIR.maxl
        have HF := Lib.hid (rFewRDN _ r wo (hIR.below hbel) hmem)
        unfold RetFr at HF
        clear hc2 hIR hmem hga hsu hbel
        go_wp2_with (((go_at_call 23); (with_reducible refine HF.out.mono ?_); rintro e w1 ⟨b, rfl, hfr, hb1⟩; have HB1 := Lib.hid (HBR.out.trans (hb1.mono HBR.out.size)); have h2k := (HB1.out.cell (p := ⟨b2, o2, none⟩) hl2).trans HC2.out; have HFR := Lib.hid hfr; clear hfr hb1; cases b))
        · go_ret
          exact ⟨false, rfl, (fun h => by cases h), HB1.out⟩
        · have hfr := HFR.out (by trivial)
          have HFW := Lib.hid hfr
          have hsl := hfr.2.2
          clear hfr h2o HF HFR
          go_loopw [3, 5] (fun nv kx wq => FkRel r n w nv kx wq) (fun _ kx _ => r.length + 1 - (intOf kx).toNat)
          case atStart => exact ⟨0, n, rfl, rfl, by simp [sumV], Nat.zero_le _, HB1.out⟩
          case round =>
            obtain ⟨k, n2, rfl, rfl, hn2, hk, hbm⟩ := hrel
            obtain ⟨wm, rfl⟩ : ∃ wm, wm = wr := ⟨_, rfl⟩
            have HBM := Lib.hid hbm
            have HN2 := Lib.hid hn2
            have h2m : wm.cell? ⟨b2, o2, none⟩ = some (.slice A2 r.length k2) := (hbm.cell (p := ⟨b2, o2, none⟩) hl2).trans HC2.out
            have hkb : n2 ≤ 50000 := by have := HFW.out.le hk; have := HFW.out.1; omega
            clear hn2 h2k
            by_cases hkl : k < r.length
            · obtain ⟨b4, o4, A4, k4, hi4, hl4, hd1, hd2, hIB⟩ := HIR.out.at_ (P := Tryz.prog) ulRdn szAtt .i64 k hkl
              have h4m : wm.cell? ⟨b4, o4 + 1, none⟩ = some (.slice A4 r[k].2.length k4) := (hbm.cell (p := ⟨b4, o4 + 1, none⟩) hl4).trans hd2
              have HGM := Lib.hid (sumV_succ r hkl)
              have hkI : (k : Int) < r.length := by omega
              have hm2 := (HFW.out.2.1 _ (List.getElem_mem hkl)).2
              have hblen := hIB.len (P := Tryz.prog) ulB
              clear hd1 hd2 hIB hbm
              generalize r[k] = q at *
              obtain ⟨t0, l0⟩ := q
              simp only at h4m hm2 hblen HGM
              have x2 : IntKind.i64.wrap ((n2 : Int) + (l0.length : Int)) = (n2 : Int) + (l0.length : Int) := wr64d (by omega) (by omega)
              obtain ⟨n3, hn3⟩ : ∃ n3 : Nat, n3 = n2 + l0.length := ⟨_, rfl⟩
              have x3 : (n2 : Int) + (l0.length : Int) = (n3 : Int) := by omega
              rw [x3] at x2
              have HN3 := Lib.hid hn3
              clear hn3
              go_wp2_with fail
              go_roundw
              case rel => exact ⟨k + 1, n3, by go_num, by first | rfl | exact congrArg (Value.int .i64) x2 | (rw [← x3]; rfl), by rw [HN3.out, HN2.out, HGM.out]; omega, by omega, HBM.out⟩
              case measure => simp [intOf]; omega
            · obtain rfl : k = r.length := by omega
              have hkI : (r.length : Int) ≤ r.length := Int.le_refl _
              go_wp2_with fail
              go_roundw
              case rel =>
                refine ⟨i + 1, n2, by go_num, rfl, by rw [HN2.out, HSU.out, HN.out, List.take_length], by omega, by omega, fun j hj => ?_, HBM.out⟩
                by_cases hji : j < i
                · exact HALL.out j hji
                · obtain rfl : j = i := by omega
                  rw [HGA.out]
                  exact HFW.out
              case measure => simp [intOf]; omega
      · have h20I : (20 : Int) ≤ i := by omega
        have h10 : (10 : Int) < x.length := by omega
        clear h20 hlt hi
        go_wp2_with fail
        go_ret
        exact ⟨false, by first | rfl | simp [*], (fun h => by cases h), HBR.out⟩
    · have hge : (x.length : Int) ≤ i := by omega
      have hie : i = x.length := by omega
      have hfull : n = sumN x := by rw [HN.out, hie, List.take_length]
      by_cases hA : x.length ≤ 10
      · have hAI : (x.length : Int) ≤ 10 := by omega
        by_cases hB : n ≤ 2000
        · have hBI : (n : Int) ≤ 2000 := by omega
          have hR := Lib.hid (show FwNm x from ⟨hA, fun r hr => by obtain ⟨j, hj, rfl⟩ := List.mem_iff_getElem.1 hr; have := HALL.out j (by omega); simpa [hj] using this, by omega⟩)
          clear hlt hi hA hB hie hfull
          go_wp2_with fail
          go_ret
          exact ⟨true, by first | rfl | simp [*], fun _ => hR.out, HBR.out⟩
        · have hBI : (2000 : Int) < n := by omega
          clear hlt hi hA hB hie hfull
          go_wp2_with fail
          go_ret
          exact ⟨false, by first | rfl | simp [*], (fun h => by cases h), HBR.out⟩
      · have hAI : (10 : Int) < x.length := by omega
        clear hlt hi hA hie hfull
        go_wp2_with fail
        go_ret
        exact ⟨false, by first | rfl | simp [*], (fun h => by cases h), HBR.out⟩
end Go.Proofs.YtlmnmgokfnnbbaaGreatDoor
end

/- Walks over cretulabase.RDN and Name. -/
section
set_option linter.unusedSimpArgs false
set_option linter.unusedVariables false
namespace Go.Proofs.YtlmnmgokfnnbbaaGreatDoor
open Go.RowKit Go.Cr
def Rbr (la lb : Rdn) (w : World) (ix : Value) (wr : World) : Prop := ∃ i : Nat, ix = .int .i64 (i : Int) ∧ i ≤ la.length ∧ i ≤ lb.length ∧ (∀ j, j < i → la.getD j default = lb.getD j default) ∧ Below w.heap.size w wr
theorem rdns_eq {la lb : Rdn} (hn : la.length = lb.length) (h : ∀ j, j < la.length → la.getD j default = lb.getD j default) : la = lb := by
  apply List.ext_getElem hn
  intro j h1 h2
  have := h j h1
  simpa [h1, h2] using this
set_option maxRecDepth 100000 in
set_option maxHeartbeats 8000000 in
theorem basRdn (a b : Value) (la lb : Rdn) (w : World) (ha : IsQs w a la) (hb : IsQs w b lb) : Calls Tryz.prog 26 #[a, b] w (RetB (.bool (decide (la = lb))) w) := by
  have hlena := ha.len (P := Tryz.prog) ulRdn
  have hlenb := hb.len (P := Tryz.prog) ulRdn
  have hmxa := ha.maxl
  have hmxb := hb.maxl
  have HA := Lib.hid ha
  have HB := Lib.hid hb
  obtain ⟨A, c, rfl⟩ := isQs_slice ha
  obtain ⟨A', c', rfl⟩ := isQs_slice hb
  obtain ⟨R, hR⟩ : ∃ R, decide (la = lb) = R := ⟨_, rfl⟩
  rw [hR]
  have HR := Lib.hid hR
  clear ha hb hR
  go_enter Tryz.func26, Tryz.ntmps26
  go_wp2_with fail
  go_loopw [5] (fun ix wr => Rbr la lb w ix wr) (fun ix _ => la.length + 1 - (intOf ix).toNat)
  case atStart => exact ⟨0, rfl, Nat.zero_le _, Nat.zero_le _, fun j h => by omega, Below.refl _ _⟩
  case round =>
    obtain ⟨i, rfl, hi, hi', hall, hbel⟩ := hrel
    have HALL := Lib.hid hall
    have HBR := Lib.hid hbel
    clear hall
    by_cases hlt : i < la.length
    · have hltI : (i : Int) < la.length := by omega
      by_cases hlt' : i < lb.length
      · have hltI' : (i : Int) < lb.length := by omega
        obtain ⟨b2, o2, A2, k2, hi2, hl2', hc2', hd2', hI2'⟩ := HA.out.at_ (P := Tryz.prog) ulRdn szAtt .i64 i hlt
        obtain ⟨b3, o3, A3, k3, hi3, hl3', hc3', hd3', hI3'⟩ := HB.out.at_ (P := Tryz.prog) ulRdn szAtt .i64 i hlt'
        have hga : la.getD i default = la[i] := by simp [hlt]
        have hgb : lb.getD i default = lb[i] := by simp [hlt']
        rw [← hga] at hc2' hd2' hI2'
        rw [← hgb] at hc3' hd3' hI3'
        have hl2 := Nat.lt_of_lt_of_le hl2' hbel.size
        have hl3 := Nat.lt_of_lt_of_le hl3' hbel.size
        have hc2 := (hbel.cell (p := ⟨b2, o2, none⟩) hl2').trans hc2'
        have hd2 := (hbel.cell (p := ⟨b2, o2 + 1, none⟩) hl2').trans hd2'
        have hc3 := (hbel.cell (p := ⟨b3, o3, none⟩) hl3').trans hc3'
        have hd3 := (hbel.cell (p := ⟨b3, o3 + 1, none⟩) hl3').trans hd3'
        have HI2 := Lib.hid (hI2'.below hbel)
        have HI3 := Lib.hid (hI3'.below hbel)
        have HC := Lib.hid (fun W (h : IsB W (.slice A2 (la.getD i default).2.length k2) (la.getD i default).2) (h' : IsB W (.slice A3 (lb.getD i default).2.length k3) (lb.getD i default).2) => attSame (la.getD i default).1 (lb.getD i default).1 _ _ _ _ W h h')
        obtain ⟨C, hC⟩ : ∃ C, decide ((la.getD i default).1 = (lb.getD i default).1 ∧ (la.getD i default).2 = (lb.getD i default).2) = C := ⟨_, rfl⟩
        rw [hC] at HC
        have HSS : Hid (∀ W, Below wr.heap.size wr W → W.cell? ⟨b2, o2, none⟩ = some (.string (la.getD i default).1) ∧ W.cell? ⟨b2, o2 + 1, none⟩ = some (.slice A2 (la.getD i default).2.length k2) ∧ W.cell? ⟨b3, o3, none⟩ = some (.string (lb.getD i default).1) ∧ W.cell? ⟨b3, o3 + 1, none⟩ = some (.slice A3 (lb.getD i default).2.length k3)) := fun W hW => ⟨(hW.cell (p := ⟨b2, o2, none⟩) hl2).trans hc2, (hW.cell (p := ⟨b2, o2 + 1, none⟩) hl2).trans hd2, (hW.cell (p := ⟨b3, o3, none⟩) hl3).trans hc3, (hW.cell (p := ⟨b3, o3 + 1, none⟩) hl3).trans hd3⟩
        have hEQ : C = true → la.getD i default = lb.getD i default := fun h => by
          have h2 := of_decide_eq_true (hC.trans h)
          exact Prod.ext h2.1 h2.2
        have hNE : C = false → R = false := fun h => by
          rw [← HR.out]
          refine decide_eq_false fun he => ?_
          subst he
          rw [h] at hC
          exact absurd ⟨rfl, rfl⟩ (of_decide_eq_false hC)
        have HEQ := Lib.hid hEQ
        have HNE := Lib.hid hNE
        obtain ⟨g0, g1, g2, g3⟩ := HSS.out wr (Below.refl _ _)
        clear hI2' hI3' hC hbel hEQ hNE hc2 hd2 hc3 hd3 hc2' hd2' hc3' hd3' hl2' hl3' hga hgb
        generalize hgx : la.getD i default = x at *
        generalize hgy : lb.getD i default = y at *
        have HGX := Lib.hid hgx
        have HGY := Lib.hid hgy
        clear hgx hgy
        obtain ⟨s1, l1⟩ := x
        obtain ⟨s2, l2⟩ := y
        simp only at HC g0 g1 g2 g3 HI2 HI3 HSS
        go_wp2_with fail
        have hcur := Lib.hid ((Below.refl wr.heap.size wr).drew)
        go_region_held3 (fun W' => W'.cell? ⟨b2, o2, none⟩ = some (.string s1) ∧ W'.cell? ⟨b2, o2 + 1, none⟩ = some (.slice A2 l1.length k2) ∧ W'.cell? ⟨b3, o3, none⟩ = some (.string s2) ∧ W'.cell? ⟨b3, o3 + 1, none⟩ = some (.slice A3 l2.length k3))
          (first | go_keep | exact HSS.out _ hcur.out)
          (first | ((go_at_call 56); (with_reducible refine (HC.out _ (HI2.out.below hcur.out) (HI3.out.below hcur.out)).mono ?_); rintro e wz ⟨rfl, hbz⟩; have hcur := Lib.hid (hcur.out.trans (hbz.mono hcur.out.size)); clear hbz))
        cases C with
        | true =>
          go_wp2_with fail
          go_roundw
          case rel =>
            refine ⟨i + 1, by go_num, by omega, by omega, fun j hj => ?_, HBR.out.trans (hcur.out.mono HBR.out.size)⟩
            by_cases hji : j < i
            · exact HALL.out j hji
            · obtain rfl : j = i := by omega
              rw [HGX.out, HGY.out]
              exact HEQ.out (by trivial)
          case measure => simp [intOf]; omega
        | false =>
          go_wp2_with fail
          go_ret
          exact ⟨by rw [HNE.out (by trivial)]; rfl, HBR.out.trans (hcur.out.mono HBR.out.size)⟩
      · have hge' : (lb.length : Int) ≤ i := by omega
        have hRf : R = false := by
          rw [← HR.out]
          exact decide_eq_false (fun h => by subst h; omega)
        have HRF := Lib.hid hRf
        have hne : ((la.length : Int) == lb.length) = false := beq_eq_false_iff_ne.2 (by omega)
        clear hRf hlt hlt'
        go_wp2_with fail
        go_ret
        exact ⟨by rw [HRF.out]; first | rfl | simp [*], HBR.out⟩
    · have hge : (la.length : Int) ≤ i := by omega
      have hie : i = la.length := by omega
      obtain ⟨E, hE⟩ : ∃ E, ((la.length : Int) == lb.length) = E := ⟨_, rfl⟩
      have hRE : R = E := by
        rw [← HR.out, ← hE]
        rw [Bool.eq_iff_iff, decide_eq_true_eq, beq_iff_eq]
        exact ⟨fun h => by rw [h], fun h => rdns_eq (by omega) fun j hj => HALL.out j (by omega)⟩
      have HRE := Lib.hid hRE
      clear hlt hi hRE hbel hi'
      go_wp2_with fail
      go_ret
      exact ⟨by rw [HRE.out]; first | rfl | simp [*], HBR.out⟩
def Rbn (la lb : Nam) (w : World) (ix : Value) (wr : World) : Prop := ∃ i : Nat, ix = .int .i64 (i : Int) ∧ i ≤ la.length ∧ i ≤ lb.length ∧ (∀ j, j < i → la.getD j [] = lb.getD j []) ∧ Below w.heap.size w wr
theorem nams_eq {la lb : Nam} (hn : la.length = lb.length) (h : ∀ j, j < la.length → la.getD j [] = lb.getD j []) : la = lb := by
  apply List.ext_getElem hn
  intro j h1 h2
  have := h j h1
  simpa [h1, h2] using this
set_option maxRecDepth 100000 in
set_option maxHeartbeats 8000000 in
theorem basNm (a b : Value) (la lb : Nam) (w : World) (ha : IsNm w a la) (hb : IsNm w b lb) : Calls Tryz.prog 37 #[a, b] w (RetB (.bool (decide (la = lb))) w) := by
  have hlena := ha.len (P := Tryz.prog) ulNam
  have hlenb := hb.len (P := Tryz.prog) ulNam
  have hmxa := ha.maxl
  have hmxb := hb.maxl
  have HA := Lib.hid ha
  have HB := Lib.hid hb
  obtain ⟨A, c, rfl⟩ := isNm_slice ha
  obtain ⟨A', c', rfl⟩ := isNm_slice hb
  obtain ⟨R, hR⟩ : ∃ R, decide (la = lb) = R := ⟨_, rfl⟩
  rw [hR]
  have HR := Lib.hid hR
  clear ha hb hR
  go_enter Tryz.func37, Tryz.ntmps37
  go_wp2_with fail
  go_loopw [5] (fun ix wr => Rbn la lb w ix wr) (fun ix _ => la.length + 1 - (intOf ix).toNat)
  case atStart => exact ⟨0, rfl, Nat.zero_le _, Nat.zero_le _, fun j h => by omega, Below.refl _ _⟩
  case round =>
    obtain ⟨i, rfl, hi, hi', hall, hbel⟩ := hrel
    have HALL := Lib.hid hall
    have HBR := Lib.hid hbel
    clear hall
    by_cases hlt : i < la.length
    · have hltI : (i : Int) < la.length := by omega
      by_cases hlt' : i < lb.length
      · have hltI' : (i : Int) < lb.length := by omega
        obtain ⟨b2, o2, A2, k2, hi2, hl2, hc2, hI2⟩ := (HA.out.below hbel).at_ (P := Tryz.prog) ulNam szRdn .i64 i hlt
        obtain ⟨b3, o3, A3, k3, hi3, hl3, hc3, hI3⟩ := (HB.out.below hbel).at_ (P := Tryz.prog) ulNam szRdn .i64 i hlt'
        have hga : la.getD i [] = la[i] := by simp [hlt]
        have hgb : lb.getD i [] = lb[i] := by simp [hlt']
        rw [← hga] at hc2 hI2
        rw [← hgb] at hc3 hI3
        have HI2 := Lib.hid hI2
        have HI3 := Lib.hid hI3
        have HC := Lib.hid (fun W (h : IsQs W (.slice A2 (la.getD i []).length k2) (la.getD i [])) (h' : IsQs W (.slice A3 (lb.getD i []).length k3) (lb.getD i [])) => basRdn _ _ _ _ W h h')
        obtain ⟨C, hC⟩ : ∃ C, decide (la.getD i [] = lb.getD i []) = C := ⟨_, rfl⟩
        rw [hC] at HC
        have HSS : Hid (∀ W, Below wr.heap.size wr W → W.cell? ⟨b2, o2, none⟩ = some (.slice A2 (la.getD i []).length k2) ∧ W.cell? ⟨b3, o3, none⟩ = some (.slice A3 (lb.getD i []).length k3)) := fun W hW => ⟨(hW.cell (p := ⟨b2, o2, none⟩) hl2).trans hc2, (hW.cell (p := ⟨b3, o3, none⟩) hl3).trans hc3⟩
        have hEQ : C = true → la.getD i [] = lb.getD i [] := fun h => of_decide_eq_true (hC.trans h)
        have hNE : C = false → R = false := fun h => by
          rw [← HR.out]
          refine decide_eq_false fun he => ?_
          subst he
          rw [h] at hC
          exact absurd rfl (of_decide_eq_false hC)
        have HEQ := Lib.hid hEQ
        have HNE := Lib.hid hNE
        clear hI2 hI3 hC hbel hEQ hNE hga hgb
        generalize hgx : la.getD i [] = x at *
        generalize hgy : lb.getD i [] = y at *
        have HGX := Lib.hid hgx
        have HGY := Lib.hid hgy
        clear hgx hgy
        go_wp2_with fail
        have hcur := Lib.hid ((Below.refl wr.heap.size wr).drew)
        go_region_held3 (fun W' => W'.cell? ⟨b2, o2, none⟩ = some (.slice A2 x.length k2) ∧ W'.cell? ⟨b3, o3, none⟩ = some (.slice A3 y.length k3))
          (first | go_keep | exact HSS.out _ hcur.out)
          (first | ((go_at_call 26); (with_reducible refine (HC.out _ (HI2.out.below hcur.out) (HI3.out.below hcur.out)).mono ?_); rintro e wz ⟨rfl, hbz⟩; have hcur := Lib.hid (hcur.out.trans (hbz.mono hcur.out.size)); clear hbz))
        cases C with
        | true =>
          go_wp2_with fail
          go_roundw
          case rel =>
            refine ⟨i + 1, by go_num, by omega, by omega, fun j hj => ?_, HBR.out.trans (hcur.out.mono HBR.out.size)⟩
            by_cases hji : j < i
            · exact HALL.out j hji
            · obtain rfl : j = i := by omega
              rw [HGX.out, HGY.out]
              exact HEQ.out (by trivial)
          case measure => simp [intOf]; omega
        | false =>
          go_wp2_with fail
          go_ret
          exact ⟨by rw [HNE.out (by trivial)]; rfl, HBR.out.trans (hcur.out.mono HBR.out.size)⟩
      · have hge' : (lb.length : Int) ≤ i := by omega
        have hRf : R = false := by
          rw [← HR.out]
          exact decide_eq_false (fun h => by subst h; omega)
        have HRF := Lib.hid hRf
        have hne : ((la.length : Int) == lb.length) = false := beq_eq_false_iff_ne.2 (by omega)
        clear hRf hlt hlt'
        go_wp2_with fail
        go_ret
        exact ⟨by rw [HRF.out]; first | rfl | simp [*], HBR.out⟩
    · have hge : (la.length : Int) ≤ i := by omega
      have hie : i = la.length := by omega
      obtain ⟨E, hE⟩ : ∃ E, ((la.length : Int) == lb.length) = E := ⟨_, rfl⟩
      have hRE : R = E := by
        rw [← HR.out, ← hE]
        rw [Bool.eq_iff_iff, decide_eq_true_eq, beq_iff_eq]
        exact ⟨fun h => by rw [h], fun h => nams_eq (by omega) fun j hj => HALL.out j (by omega)⟩
      have HRE := Lib.hid hRE
      clear hlt hi hRE hbel hi'
      go_wp2_with fail
      go_ret
      exact ⟨by rw [HRE.out]; first | rfl | simp [*], HBR.out⟩
end Go.Proofs.YtlmnmgokfnnbbaaGreatDoor
end

/- The reference's Parse of a name: what it returns is its own. -/
section
set_option linter.unusedSimpArgs false
set_option linter.unusedVariables false
namespace Go.Proofs.YtlmnmgokfnnbbaaGreatDoor
open Go.RowKit Go.Cr
def RetDw (ms : Nam) (w : World) (e : Ending) (w' : World) : Prop := ∃ A k, e = .returned (.tuple #[.slice A ms.length k, .bool true]) ∧ OwL (repL repA) (fun _ => True) w' w.heap.size 30 (.slice A ms.length k) ms ∧ Below w.heap.size w w'
set_option maxRecDepth 100000 in
set_option maxHeartbeats 8000000 in
theorem rParNm_own (v : Value) (b : List UInt8) (ms : Nam) (w : World) (hv : IsB w v b) (hL : b.length ≤ 4000) (hp : rparNm b = some ms) : Calls Tryz.prog 38 #[v] w (RetDw ms w) := by
  have HD := Lib.hid (fun W (h : IsB W v b) => rDeepDn v b W h hL)
  unfold RetDDn at HD
  have HV := Lib.hid hv
  have hz := szN_rd hL
  have hq : rdN0 b = ms ∧ marNm ms = some b := by
    unfold rparNm at hp
    split at hp
    · rename_i h
      injection hp with hp
      subst hp
      exact ⟨rfl, h⟩
    · cases hp
  rw [hq.1] at HD hz
  have HM : Hid (∀ W u, IsNm W u ms → Calls Tryz.prog 34 #[u] W (RetOidY b W)) := Lib.hid (fun W u h => (rMarshalNm u ms W h hz).mono fun e w' hh => by rw [hq.2] at hh; exact hh.yes)
  have HBt : Hid (∀ W u, IsB W u b → IsB W v b → Calls Tryz.prog 28 #[u, v] W (RetB (.bool true) W)) := Lib.hid (fun W u h h2 => by have := bytes_any u v b b W h h2; rwa [decide_eq_true rfl] at this)
  obtain ⟨A, k, rfl⟩ := isB_slice hv
  clear hv hL hz hp hq
  go_enter Tryz.func38, Tryz.ntmps38
  go_wp2_with (first | ((go_at_call 61); (with_reducible refine (HD.out _ HV.out).mono ?_); rintro e w1 ⟨hbw1, c1, c2, c3, a4, a5, n4, k4, n5, k5, t, rfl, hrd⟩; have HRD := Lib.hid hrd; have HB1 := Lib.hid hbw1; clear hrd hbw1) | ((go_at_call 64); (with_reducible refine (HRD.out _ ((Below.refl _ w1).alloc (Nat.le_refl _) _)).mono ?_); rintro e w2 ⟨A2, k2, rfl, ho2, hbw2⟩; have hle2 : w.heap.size ≤ w1.heap.size := HB1.out.size; have HB2 := Lib.hid ((HB1.out.alloc HB1.out.size _).trans (hbw2.mono (by have := HB1.out.size; simp; omega))); have HW2 := Lib.hid (ho2.more (Nat.le_trans hle2 (by simp))); have HO2 := Lib.hid (isNm_of ho2.isL); clear ho2 hbw2) | ((go_at_call 34); (with_reducible refine (HM.out _ _ HO2.out).mono ?_); rintro e w3 ⟨v3, rfl, ho3, hbw3⟩; obtain ⟨A3, k3, rfl⟩ := isB_slice ho3.isB; have HB3 := Lib.hid (HB2.out.trans (hbw3.mono HB2.out.size)); have HV3 := Lib.hid ho3.isB; have HW3 := Lib.hid (HW2.out.below hbw3); clear hbw3 ho3) | ((go_at_call 28); (with_reducible refine (HBt.out _ _ HV3.out (HV.out.below HB3.out)).mono ?_); rintro e w4 ⟨rfl, hbw4⟩; have HB4 := Lib.hid (HB3.out.trans (hbw4.mono HB3.out.size)); have HW4 := Lib.hid (HW3.out.below hbw4); clear hbw4))
  go_ret2
  exact ⟨A2, k2, rfl, HW4.out, HB4.out⟩
end Go.Proofs.YtlmnmgokfnnbbaaGreatDoor
end
