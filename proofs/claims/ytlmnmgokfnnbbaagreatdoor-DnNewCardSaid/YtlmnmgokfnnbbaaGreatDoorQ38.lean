/- The parts NewQ, NewR of one proof, one behind the other. -/
import Derived.Test.YtlmnmgokfnnbbaaGreatDoorQ11
import Derived.Test.YtlmnmgokfnnbbaaGreatDoorQ37
import Derived.Test.YtlmnmgokfnnbbaaGreatDoorQ10

/- Walk over dn.New. -/
section
set_option linter.unusedSimpArgs false
set_option linter.unusedVariables false
namespace Go.Proofs.YtlmnmgokfnnbbaaGreatDoor
open Go.RowKit Go.Cr
def RetNwY (l : Rdn) (w : World) (e : Ending) (w' : World) : Prop := ∃ r A k, NewOf l r ∧ e = .returned (.tuple #[.slice A r.length k, .int .i64 0]) ∧ OwL repA (fun _ => True) w' w.heap.size 58 (.slice A r.length k) r ∧ Below w.heap.size w w'
theorem isBs_ownE {w : World} {b1 b2 : Nat} {o : Value} {vs : List Value} {ls : List (List UInt8)} (h : w.ownsRow b1 33 1 o ls.length vs) (he : OwE w b2 vs ls) : IsBs w o ls := ⟨vs, IsR.of_own h, fun j hj => (he.2 j hj).isB⟩
theorem isBs_sl {w : World} {v : Value} {ls : List (List UInt8)} (h : IsBs w v ls) : ∃ A c, v = .slice A ls.length c := by
  obtain ⟨vs, hr, _⟩ := h
  obtain ⟨A, c, e, _⟩ := hr
  exact ⟨A, c, e⟩
theorem attX (s : ByteArray) (v : Value) (l : List UInt8) (w : World) (hG : Glo w) (hv : IsB w v l) (hs : s.size ≤ 100000) (hl : l.length ≤ 100000) : Calls Tryz.prog 52 #[.agg #[.string s, v]] w (RetOid (marX (s, l)) w) := attMarshal s v l w hG hv hs hl
set_option maxRecDepth 100000 in
set_option maxHeartbeats 16000000 in
theorem newN_ (v : Value) (l : Rdn) (w : World) (hG : Glo w) (hv : IsQs w v l) (hz : SzR l) (ho : optL marX l = none) : Calls Tryz.prog 39 #[v] w (RetB (.tuple #[.slice none 0 0, .int .i64 8]) w) := by
  have hlen := hv.len (P := Tryz.prog) ulAts
  have hmx := hv.maxl
  have HV := Lib.hid hv
  have HZ := Lib.hid hz.2.1
  obtain ⟨m, h1, ⟨h1', h2⟩, ps, h3, h4⟩ := optL_first ho
  have HN := Lib.hid h2
  have HO := Lib.hid (fun i h1 h2 => h4 i h1 h2)
  have hps1 := hz.1
  have HG := Lib.hid hG
  obtain ⟨A, c, rfl⟩ := isQs_slice hv
  clear hv hz ho hG h2 h4
  go_enter Tryz.func39, Tryz.ntmps39
  go_wp2_with fail
  go_loopw [4, 16] (fun out ix wr => QsRel ps w out ix wr) (fun _ ix _ => l.length + 1 - (intOf ix).toNat)
  case atStart => exact ⟨0, rfl, Nat.zero_le _, OwP.nil_ _ _ _, Below.refl _ _⟩
  case round =>
    obtain ⟨i, rfl, hi, how, hbel⟩ := hrel
    have HOW := Lib.hid how
    have HBR := Lib.hid hbel
    have hszr := hbel.size
    have hlt : i < l.length := by omega
    by_cases him : i < m
    · have hltI : (i : Int) < l.length := by omega
      have hip : i < ps.length := by omega
      obtain ⟨b, o, A2, k2, hi2, hl2, hc2, hd2, hIB⟩ := HV.out.at_ (P := Tryz.prog) ulAts szAtt .i64 i hlt
      have g0 := (hbel.cell (p := ⟨b, o, none⟩) hl2).trans hc2
      have g1 := (hbel.cell (p := ⟨b, o + 1, none⟩) hl2).trans hd2
      have hzz := HZ.out _ (List.getElem_mem hlt)
      have HIB := Lib.hid (hIB.below hbel)
      have HGR := Lib.hid (HG.out.below hbel)
      have hcall : ∀ W, Glo W → IsB W (.slice A2 l[i].2.length k2) l[i].2 → Calls Tryz.prog 52 #[.agg #[.string l[i].1, .slice A2 l[i].2.length k2]] W (RetOidY ps[i] W) := fun W g h => (attX _ _ _ W g h hzz.1 hzz.2).mono fun e w' hh => by
        have e1 : marX (l[i].1, l[i].2) = some ps[i] := HO.out i hip hlt
        rw [e1] at hh
        exact hh.yes
      have HTK := Lib.hid (show ps.take (i + 1) = ps.take i ++ [ps[i]] by rw [List.take_succ_eq_append_getElem hip])
      have hll : (ps.take i).length ≤ 100000 := by rw [List.length_take]; omega
      have HLL := Lib.hid hll
      have HCALL := Lib.hid hcall
      unfold RetOidY at HCALL
      clear how hbel hcall hll hc2 hd2 hIB hzz HO
      generalize ps[i] = pl at *
      generalize ps.take i = LL at *
      generalize l[i] = a at *
      obtain ⟨s0, l0⟩ := a
      simp only at g0 g1 HCALL HIB
      go_wp2_with (first | ((go_at_call 52); (with_reducible refine (HCALL.out _ (HGR.out.alloc _) (HIB.out.alloc _)).mono ?_); rintro e wd ⟨vd, rfl, hod, hbwd⟩; obtain ⟨Ad, kd, rfl⟩ := isB_slice hod.isB; have HPD := Lib.hid (part_newD hod (HOW.out.alloc _) (by simp; omega)); have HAD := Lib.hid ((HOW.out.alloc _).below hbwd); have HWD := Lib.hid ((HBR.out.alloc hszr (.cells #[.string s0, .slice A2 l0.length k2] 58)).trans (hbwd.mono (by simp; omega))); clear hod hbwd) | (at_builtin; refine wpList_appP _ rfl _ _ 74 rfl w.heap.size 33 ulBs infoBsD _ LL rfl (HAD.out.alloc _) _ (.slice Ad pl.length kd) pl rfl isR_oneD (HPD.out.alloc _) ?n2 ?b2 ?_))
      case n2 => have := HLL.out; omega
      case b2 => have := HWD.out.size; simp; omega
      intro v6 w6 ho6 hb6 _
      have HO6 := Lib.hid ho6
      have HB6 := Lib.hid ((HWD.out.alloc HWD.out.size (.cells #[.slice Ad pl.length kd] 33)).trans hb6)
      clear ho6 hb6
      go_wp2
      go_roundw
      case rel => exact ⟨i + 1, by go_num, by omega, by rw [HTK.out]; exact HO6.out, HB6.out⟩
      case measure => simp [intOf]; omega
    · obtain rfl : i = m := by omega
      have hltI : (i : Int) < l.length := by omega
      obtain ⟨b, o, A2, k2, hi2, hl2, hc2, hd2, hIB⟩ := HV.out.at_ (P := Tryz.prog) ulAts szAtt .i64 i hlt
      have g0 := (hbel.cell (p := ⟨b, o, none⟩) hl2).trans hc2
      have g1 := (hbel.cell (p := ⟨b, o + 1, none⟩) hl2).trans hd2
      have hzz := HZ.out _ (List.getElem_mem hlt)
      have HIB := Lib.hid (hIB.below hbel)
      have HGR := Lib.hid (HG.out.below hbel)
      have HCALL : Hid (∀ W, Glo W → IsB W (.slice A2 l[i].2.length k2) l[i].2 → Calls Tryz.prog 52 #[.agg #[.string l[i].1, .slice A2 l[i].2.length k2]] W (RetB (.tuple #[.slice none 0 0, .int .i64 8]) W)) := Lib.hid (fun W g h => (attX _ _ _ W g h hzz.1 hzz.2).mono fun e w' hh => by
        have e1 : marX (l[i].1, l[i].2) = none := HN.out
        rw [e1] at hh
        exact hh.no)
      clear how hbel hc2 hd2 hIB hzz HO HN
      generalize l[i] = a at *
      obtain ⟨s0, l0⟩ := a
      simp only at g0 g1 HCALL HIB
      go_wp2_with (((go_at_call 52); (with_reducible refine (HCALL.out _ (HGR.out.alloc _) (HIB.out.alloc _)).mono ?_); rintro e wd ⟨rfl, hbwd⟩; have HWD := Lib.hid ((HBR.out.alloc hszr (.cells #[.string s0, .slice A2 l0.length k2] 58)).trans (hbwd.mono (by simp; omega))); clear hbwd))
      go_ret2
      exact ⟨rfl, HWD.out⟩
def NqRel (r : Rdn) (w : World) (out ix : Value) (wr : World) : Prop := ∃ i : Nat, ix = .int .i64 (i : Int) ∧ i ≤ r.length ∧ OwL repA (fun _ => True) wr w.heap.size 58 out (r.take i) ∧ Below w.heap.size w wr
set_option maxRecDepth 100000 in
set_option maxHeartbeats 16000000 in
theorem newY_ (v : Value) (l : Rdn) (ps : List (List UInt8)) (w : World) (hG : Glo w) (hv : IsQs w v l) (hz : SzR l) (ho : optL marX l = some ps) (h0 : l.length ≠ 0) (hy9 : ∀ y ∈ ps, y.length ≤ 90000) : Calls Tryz.prog 39 #[v] w (RetNwY l w) := by
  have hlen := hv.len (P := Tryz.prog) ulAts
  have hmx := hv.maxl
  have HV := Lib.hid hv
  have HZ := Lib.hid hz.2.1
  have hpl1 : ps.length ≤ l.length := Nat.le_of_eq (optL_len ho)
  have hpl2 : l.length ≤ ps.length := Nat.le_of_eq (optL_len ho).symm
  have hps0 := hz.2.2 ps ho
  have hps1 := hz.1
  have HPL1 : Hid (∀ p ∈ ps, p.length ≤ 1000000) := Lib.hid (fun p hp => by have := mem_flat_len hp; omega)
  have HPF : Hid (ps.flatten.length ≤ 900000) := Lib.hid hps0
  have HO := Lib.hid (fun i h1 h2 => optL_at ho i h1 h2)
  have HOO := Lib.hid ho
  have HY9 := Lib.hid hy9
  have HG := Lib.hid hG
  have HL0 := Lib.hid h0
  have hpn : ps.length ≤ 10000 := by omega
  have HSO : Hid (∀ W u, IsBs W u ps → Calls Tryz.prog 65 #[u] W (RetSd ps W)) := Lib.hid (fun W u h => pSorted u ps W h (by omega) HPF.out)
  obtain ⟨A, c, rfl⟩ := isQs_slice hv
  obtain ⟨j0, hj0, hy0, hy1, hy2⟩ := info_parts infoAtt
  clear hv hz ho hG h0 hps0 hy9
  go_enter Tryz.func39, Tryz.ntmps39
  go_wp2_with fail
  go_loopw [4, 16] (fun out ix wr => QsRel ps w out ix wr) (fun _ ix _ => l.length + 1 - (intOf ix).toNat)
  case atStart => exact ⟨0, rfl, Nat.zero_le _, OwP.nil_ _ _ _, Below.refl _ _⟩
  case round =>
    obtain ⟨i, rfl, hi, how, hbel⟩ := hrel
    have HOW := Lib.hid how
    have HBR := Lib.hid hbel
    have hszr := hbel.size
    by_cases hlt : i < l.length
    · have hltI : (i : Int) < l.length := by omega
      have hip : i < ps.length := by omega
      obtain ⟨b, o, A2, k2, hi2, hl2, hc2, hd2, hIB⟩ := HV.out.at_ (P := Tryz.prog) ulAts szAtt .i64 i hlt
      have g0 := (hbel.cell (p := ⟨b, o, none⟩) hl2).trans hc2
      have g1 := (hbel.cell (p := ⟨b, o + 1, none⟩) hl2).trans hd2
      have hzz := HZ.out _ (List.getElem_mem hlt)
      have HIB := Lib.hid (hIB.below hbel)
      have HGR := Lib.hid (HG.out.below hbel)
      have hcall : ∀ W, Glo W → IsB W (.slice A2 l[i].2.length k2) l[i].2 → Calls Tryz.prog 52 #[.agg #[.string l[i].1, .slice A2 l[i].2.length k2]] W (RetOidY ps[i] W) := fun W g h => (attX _ _ _ W g h hzz.1 hzz.2).mono fun e w' hh => by
        have e1 : marX (l[i].1, l[i].2) = some ps[i] := HO.out i hlt hip
        rw [e1] at hh
        exact hh.yes
      have HTK := Lib.hid (show ps.take (i + 1) = ps.take i ++ [ps[i]] by rw [List.take_succ_eq_append_getElem hip])
      have hll : (ps.take i).length ≤ 100000 := by rw [List.length_take]; omega
      have HLL := Lib.hid hll
      have HCALL := Lib.hid hcall
      unfold RetOidY at HCALL
      clear how hbel hcall hll hc2 hd2 hIB hzz HO
      generalize ps[i] = pl at *
      generalize ps.take i = LL at *
      generalize l[i] = a at *
      obtain ⟨s0, l0⟩ := a
      simp only at g0 g1 HCALL HIB
      go_wp2_with (first | ((go_at_call 52); (with_reducible refine (HCALL.out _ (HGR.out.alloc _) (HIB.out.alloc _)).mono ?_); rintro e wd ⟨vd, rfl, hod, hbwd⟩; obtain ⟨Ad, kd, rfl⟩ := isB_slice hod.isB; have HPD := Lib.hid (part_newD hod (HOW.out.alloc _) (by simp; omega)); have HAD := Lib.hid ((HOW.out.alloc _).below hbwd); have HWD := Lib.hid ((HBR.out.alloc hszr (.cells #[.string s0, .slice A2 l0.length k2] 58)).trans (hbwd.mono (by simp; omega))); clear hod hbwd) | (at_builtin; refine wpList_appP _ rfl _ _ 74 rfl w.heap.size 33 ulBs infoBsD _ LL rfl (HAD.out.alloc _) _ (.slice Ad pl.length kd) pl rfl isR_oneD (HPD.out.alloc _) ?n2 ?b2 ?_))
      case n2 => have := HLL.out; omega
      case b2 => have := HWD.out.size; simp; omega
      intro v6 w6 ho6 hb6 _
      have HO6 := Lib.hid ho6
      have HB6 := Lib.hid ((HWD.out.alloc HWD.out.size (.cells #[.slice Ad pl.length kd] 33)).trans hb6)
      clear ho6 hb6
      go_wp2
      go_roundw
      case rel => exact ⟨i + 1, by go_num, by omega, by rw [HTK.out]; exact HO6.out, HB6.out⟩
      case measure => simp [intOf]; omega
    · have hie : i = ps.length := by omega
      have how := HOW.out
      rw [hie, List.take_length] at how
      obtain ⟨Ao, ko, hoe⟩ := how.slice
      subst hoe
      have HNB := Lib.hid how.isBs
      have hge : (l.length : Int) ≤ i := by omega
      clear how hlt hi hie hbel
      go_wp2_with (((go_at_call 65); (with_reducible refine (HSO.out _ _ HNB.out).mono ?_); rintro e w2 ⟨o2, ss, vs2, rfl, hso, hrow, hel, hbw2⟩; have HBS := Lib.hid (isBs_ownE hrow hel); have hlo := HBS.out.len (P := Tryz.prog) ulBs; have HSO2 := Lib.hid hso; have HW2 := Lib.hid (HBR.out.trans (hbw2.mono hszr)); clear hrow hel hbw2))
      obtain ⟨Ao2, ko2, rfl⟩ := isBs_sl HBS.out
      obtain ⟨r, hr, hN⟩ := NewOf.of HOO.out HSO2.out HPL1.out
      have HNW := Lib.hid hN
      have HR := Lib.hid hr
      have hrl1 : r.length ≤ ss.length := Nat.le_of_eq (optL_len hr)
      have hrl2 : ss.length ≤ r.length := Nat.le_of_eq (optL_len hr).symm

      have hssl : ss.length ≤ 10000 := by have := asc_len HSO2.out.1 (fun x hx => (HSO2.out.2 x).1 hx); omega
      have HYL : Hid (∀ y ∈ ss, y.length ≤ 90000) := Lib.hid (fun y hy => HY9.out y ((HSO2.out.2 y).1 hy))
      have hr0 := hN.ne HL0.out
      have hrI : ((r.length : Int) == 0) = false := beq_eq_false_iff_ne.2 (by omega)
      have HG2 := Lib.hid (HG.out.below HW2.out)
      have hw2 : w.heap.size ≤ w2.heap.size := HW2.out.size
      clear hN hr hso
      go_loopw [9, 35] (fun out ix wr => NqRel r w2 out ix wr) (fun _ ix _ => ss.length + 1 - (intOf ix).toNat)
      case atStart => exact ⟨0, rfl, Nat.zero_le _, OwL.nil_ _ _ _ _, Below.refl _ _⟩
      case round =>
        obtain ⟨i, rfl, hi, how, hbel⟩ := hrel
        have HOW := Lib.hid how
        have HBR := Lib.hid hbel
        have hszr := hbel.size
        by_cases hlt : i < ss.length
        · have hltI : (i : Int) < ss.length := by omega
          have hir : i < r.length := by omega
          obtain ⟨bb, oo, u, hi2, hbb, hc, hu⟩ := HBS.out.at_ (P := Tryz.prog) ulBs szBs .i64 (i := i) (by omega) hltI
          simp only [Int.toNat_natCast] at hu
          have hgd : ss.getD i [] = ss[i] := by simp [hlt]
          rw [hgd] at hu
          have cu : wr.cell? ⟨bb, oo, none⟩ = some u := below_cell hbel hbb hc
          have hple := HYL.out _ (List.getElem_mem hlt)
          have hpx := optL_at HR.out i hlt hir
          have hPX : ∀ W, Glo W → IsB W u ss[i] → Calls Tryz.prog 54 #[u] W (RetPX (some r[i]) ss[i].length W) := fun W g h => by
            have := attParseX u ss[i] W g h hple
            rwa [hpx] at this
          have HPX := Lib.hid hPX
          unfold RetPX at HPX
          simp only [errV] at HPX
          have HU := Lib.hid (hu.below hbel)
          have HGR := Lib.hid (HG2.out.below hbel)
          have HTK := Lib.hid (show r.take (i + 1) = r.take i ++ [r[i]] by rw [List.take_succ_eq_append_getElem hir])
          have hll : (r.take i).length ≤ 100000 := by rw [List.length_take]; omega
          have HLL := Lib.hid hll
          obtain ⟨A5, k5, rfl⟩ := isB_slice hu
          clear how hbel hu hc hPX hpx hgd hll hple
          generalize ss[i] = y at *
          generalize r.take i = LL at *
          generalize r[i] = a at *
          obtain ⟨s, l'⟩ := a
          simp only at HPX
          go_wp2_with (first | ((go_at_call 54); (with_reducible refine (HPX.out _ HGR.out HU.out).mono ?_); rintro e w4 ⟨A4, k4, rfl, ho4, hbw4⟩; have HV4 := Lib.hid ((IsRS.of_own ho4).weak (S' := fun b => wr.heap.size ≤ b) (fun b _ hS => hS)); have HB4 := Lib.hid (HBR.out.trans (hbw4.mono hszr)); have HOW4 := Lib.hid (HOW.out.below hbw4); have hs4 := HB4.out.size; clear ho4 hbw4) | (at_builtin; refine wpList_appL (r := repA) (X := fun _ => True) _ rfl _ _ 30 rfl w2.heap.size 58 ulRdn hj0 hy0 hy1 hy2 rfl (by decide) _ LL rfl (((HOW4.out.alloc _).alloc _).alloc _) _ [.string s, .slice A4 l'.length k4] (s, l') rfl (isR_at rfl (by simp)) ⟨_, rfl, ?e1⟩ ?m1 ?m2 trivial ?_))
          case e1 => exact (((HV4.out.weak (S' := fun b => But w2.heap.size _ b) fun b hb hS => ⟨by omega, HOW.out.notNew hS⟩).alloc _).alloc _).alloc _
          case m1 => have := HLL.out; omega
          case m2 => have := HB4.out.size; simp; omega
          intro v8 w8 ho8 hb8 hg8
          have HO8 := Lib.hid ho8
          have HB8 := Lib.hid ((((HB4.out.alloc HB4.out.size (.cells #[.string s, .slice A4 l'.length k4] 58)).alloc (by simp; omega) (.cells #[.int .i64 0, .int .i64 0] 38)).alloc (by simp; omega) (.cells #[.string s, .slice A4 l'.length k4] 58)).trans hb8)
          clear ho8 hb8 hg8
          go_wp2
          go_roundw
          case rel => exact ⟨i + 1, by go_num, by omega, by rw [HTK.out]; exact HO8.out, HB8.out⟩
          case measure => simp [intOf]; omega
        · have hie : i = r.length := by omega
          have how := HOW.out
          rw [hie, List.take_length] at how
          have HOE := Lib.hid how
          have hge : (ss.length : Int) ≤ i := by omega
          have hlo3 := how.isL.len (P := Tryz.prog) ulRdn
          obtain ⟨Ao, ko, hoe⟩ := how.slice
          subst hoe
          clear how hlt hi hie hbel
          go_wp2_with fail
          go_ret2
          exact ⟨r, _, _, HNW.out, rfl, HOE.out.more hw2, HW2.out.trans (HBR.out.mono hw2)⟩
def NzRel (w : World) (out ix : Value) (wr : World) : Prop := out = .slice none 0 0 ∧ ix = .int .i64 0 ∧ Below w.heap.size w wr
theorem sortOf_nil {ss : List (List UInt8)} (h : SortOf [] ss) : ss = [] := List.eq_nil_iff_forall_not_mem.2 fun x hx => by simpa using (h.2 x).1 hx
set_option maxRecDepth 100000 in
set_option maxHeartbeats 16000000 in
theorem newZ_ (v : Value) (w : World) (hv : IsQs w v []) : Calls Tryz.prog 39 #[v] w (RetB (.tuple #[.slice none 0 0, .int .i64 8]) w) := by
  have HSO : Hid (∀ W, Calls Tryz.prog 65 #[.slice none 0 0] W (RetSd [] W)) := Lib.hid (fun W => pSorted _ [] W (OwP.nil_ W 0 33).isBs (by simp) (by simp))
  have hlen := hv.len (P := Tryz.prog) ulAts
  obtain ⟨A, c, rfl⟩ := isQs_slice hv
  simp only [List.length_nil] at hlen ⊢
  clear hv
  go_enter Tryz.func39, Tryz.ntmps39
  go_wp2_with fail
  go_loopw [4, 16] (fun out ix wr => NzRel w out ix wr) (fun _ _ _ => 1)
  case atStart => exact ⟨rfl, rfl, Below.refl _ _⟩
  case round =>
    obtain ⟨rfl, rfl, hbel⟩ := hrel
    have HBR := Lib.hid hbel
    have hszr := hbel.size
    clear hbel
    go_wp2_with (((go_at_call 65); (with_reducible refine (HSO.out _).mono ?_); rintro e w2 ⟨o2, ss, vs2, rfl, hso, hrow, hel, hbw2⟩; obtain rfl := sortOf_nil hso; have hlo := (IsR.of_own hrow).len (P := Tryz.prog) ulBs; simp only [List.length_nil] at hlo; have HB2 := Lib.hid (HBR.out.trans (hbw2.mono hszr)); clear hso hrow hel hbw2))
    go_loopw [9, 35] (fun out ix wr => NzRel w2 out ix wr) (fun _ _ _ => 1)
    case atStart => exact ⟨rfl, rfl, Below.refl _ _⟩
    case round =>
      obtain ⟨rfl, rfl, hbel⟩ := hrel
      have HBE := Lib.hid (HB2.out.trans (hbel.mono HB2.out.size))
      clear hbel
      go_wp2_with fail
      go_ret2
      exact ⟨rfl, HBE.out⟩
end Go.Proofs.YtlmnmgokfnnbbaaGreatDoor
end

/- Walk over the reference's New. -/
section
set_option linter.unusedSimpArgs false
set_option linter.unusedVariables false
namespace Go.Proofs.YtlmnmgokfnnbbaaGreatDoor
open Go.RowKit Go.Cr
def RetPX1 (a : At) (w : World) (e : Ending) (w' : World) : Prop := ∃ A k, e = .returned (.tuple #[.agg #[.string a.1, .slice A a.2.length k], .bool true]) ∧ OwB w' w.heap.size 5 (.slice A a.2.length k) a.2 ∧ Below w.heap.size w w'
theorem rParX (u : Value) (y : List UInt8) (a : At) (W : World) (h : IsB W u y) (hl : y.length ≤ 4000) (hp : parX y = some a) : Calls Tryz.prog 67 #[u] W (RetPX1 a W) := by
  refine (rAttParse u y W h hl).mono fun e w' hh => ?_
  rw [rparA_eq (by omega)] at hh
  unfold parX at hp
  cases hq : parA y with
  | none => rw [hq] at hp; cases hp
  | some p =>
    obtain ⟨s, l⟩ := p
    rw [hq] at hh hp
    injection hp with hp
    subst hp
    exact hh
theorem rValX (s : ByteArray) (v : Value) (l : List UInt8) (w : World) (hv : IsB w v l) (hs : s.size ≤ 100000) (hl : l.length ≤ 100000) : Calls Tryz.prog 59 #[.agg #[.string s, v]] w (RetB (.bool (marX (s, l)).isSome) w) := rAttValid s v l w hv (by omega) (by omega)
set_option maxRecDepth 100000 in
set_option maxHeartbeats 16000000 in
theorem rNewN (v : Value) (l : Rdn) (w : World) (hv : IsQs w v l) (hz : SzR l) (ho : optL marX l = none) : Calls Tryz.prog 40 #[v] w (RetB (.tuple #[.slice none 0 0, .int .i64 8]) w) := by
  have hlen := hv.len (P := Tryz.prog) ulAts
  have hmx := hv.maxl
  have HV := Lib.hid hv
  have HZ := Lib.hid hz.2.1
  obtain ⟨m, h1, ⟨h1', h2⟩, ps, h3, h4⟩ := optL_first ho
  have HN := Lib.hid h2
  have HO := Lib.hid (fun i h1 h2 => h4 i h1 h2)
  have hps1 := hz.1
  obtain ⟨A, c, rfl⟩ := isQs_slice hv
  clear hv hz ho h2 h4
  go_enter Tryz.func40, Tryz.ntmps40
  go_wp2_with fail
  go_loopw [4] (fun ix wr => VrRel m w ix wr) (fun ix _ => l.length + 1 - (intOf ix).toNat)
  case atStart => exact ⟨0, rfl, Nat.zero_le _, Below.refl _ _⟩
  case round =>
    obtain ⟨i, rfl, hi, hbel⟩ := hrel
    have HBR := Lib.hid hbel
    have hszr := hbel.size
    have hlt : i < l.length := by omega
    have hltI : (i : Int) < l.length := by omega
    by_cases him : i < m
    · have hip : i < ps.length := by omega
      obtain ⟨b, o, A2, k2, hi2, hl2, hc2, hd2, hIB⟩ := HV.out.at_ (P := Tryz.prog) ulAts szAtt .i64 i hlt
      have g0 := (hbel.cell (p := ⟨b, o, none⟩) hl2).trans hc2
      have g1 := (hbel.cell (p := ⟨b, o + 1, none⟩) hl2).trans hd2
      have hzz := HZ.out _ (List.getElem_mem hlt)
      have HCALL := Lib.hid (rValX l[i].1 _ l[i].2 wr (hIB.below hbel) hzz.1 hzz.2)
      have hs : (marX (l[i].1, l[i].2)).isSome = true := (by have e1 : marX (l[i].1, l[i].2) = some ps[i] := HO.out i hip hlt; rw [e1]; rfl)
      rw [hs] at HCALL
      clear hbel hc2 hd2 hIB hzz hs
      generalize l[i] = a at *
      obtain ⟨s0, l0⟩ := a
      simp only at g0 g1 HCALL
      go_wp2_with (((go_at_call 59); (with_reducible refine HCALL.out.mono ?_); rintro e wd ⟨rfl, hbwd⟩; have HWD := Lib.hid (HBR.out.trans (hbwd.mono hszr)); clear hbwd))
      go_roundw
      case rel => exact ⟨i + 1, by go_num, by omega, HWD.out⟩
      case measure => simp [intOf]; omega
    · obtain rfl : i = m := by omega
      obtain ⟨b, o, A2, k2, hi2, hl2, hc2, hd2, hIB⟩ := HV.out.at_ (P := Tryz.prog) ulAts szAtt .i64 i hlt
      have g0 := (hbel.cell (p := ⟨b, o, none⟩) hl2).trans hc2
      have g1 := (hbel.cell (p := ⟨b, o + 1, none⟩) hl2).trans hd2
      have hzz := HZ.out _ (List.getElem_mem hlt)
      have HCALL := Lib.hid (rValX l[i].1 _ l[i].2 wr (hIB.below hbel) hzz.1 hzz.2)
      have hs : (marX (l[i].1, l[i].2)).isSome = false := (by have e1 : marX (l[i].1, l[i].2) = none := HN.out; rw [e1]; rfl)
      rw [hs] at HCALL
      clear hbel hc2 hd2 hIB hzz hs
      generalize l[i] = a at *
      obtain ⟨s0, l0⟩ := a
      simp only at g0 g1 HCALL
      go_wp2_with (((go_at_call 59); (with_reducible refine HCALL.out.mono ?_); rintro e wd ⟨rfl, hbwd⟩; have HWD := Lib.hid (HBR.out.trans (hbwd.mono hszr)); clear hbwd))
      go_ret2
      exact ⟨rfl, HWD.out⟩
set_option maxRecDepth 100000 in
set_option maxHeartbeats 16000000 in
theorem rNewY (v : Value) (l : Rdn) (ps : List (List UInt8)) (w : World) (hv : IsQs w v l) (hz : SzR l) (ho : optL marX l = some ps) (h0 : l.length ≠ 0) (hy9 : ∀ y ∈ ps, y.length ≤ 4000) : Calls Tryz.prog 40 #[v] w (RetNwY l w) := by
  have hlen := hv.len (P := Tryz.prog) ulAts
  have hmx := hv.maxl
  have HV := Lib.hid hv
  have HZ := Lib.hid hz.2.1
  have hpl1 : ps.length ≤ l.length := Nat.le_of_eq (optL_len ho)
  have hpl2 : l.length ≤ ps.length := Nat.le_of_eq (optL_len ho).symm
  have hps0 := hz.2.2 ps ho
  have hps1 := hz.1
  have HPL1 : Hid (∀ p ∈ ps, p.length ≤ 1000000) := Lib.hid (fun p hp => by have := hy9 p hp; omega)
  have HO := Lib.hid (fun i h1 h2 => optL_at ho i h1 h2)
  have HOO := Lib.hid ho
  have HY9 := Lib.hid hy9
  have HL0 := Lib.hid h0
  have hpn : ps.length ≤ 10000 := by omega
  have HSO : Hid (∀ W u, IsBs W u ps → Calls Tryz.prog 66 #[u] W (RetBs ps W)) := Lib.hid (fun W u h => rSorted u ps W h (by omega))
  obtain ⟨A, c, rfl⟩ := isQs_slice hv
  have HPP : Hid (∀ W, IsQs W (.slice A l.length c) l → Calls Tryz.prog 58 #[.slice A l.length c] W (RetQs ps W)) := Lib.hid (fun W h => rPartsR _ l ps W h HZ.out (by omega) HOO.out)
  unfold RetQs at HPP
  obtain ⟨j0, hj0, hy0, hy1, hy2⟩ := info_parts infoAtt
  clear hv hz ho h0 hps0 hy9
  go_enter Tryz.func40, Tryz.ntmps40
  go_wp2_with fail
  go_loopw [4] (fun ix wr => VrRel l.length w ix wr) (fun ix _ => l.length + 1 - (intOf ix).toNat)
  case atStart => exact ⟨0, rfl, Nat.zero_le _, Below.refl _ _⟩
  case round =>
    obtain ⟨i, rfl, hi, hbel⟩ := hrel
    have HBR := Lib.hid hbel
    have hszr := hbel.size
    by_cases hlt : i < l.length
    · have hltI : (i : Int) < l.length := by omega
      have hip : i < ps.length := by omega
      obtain ⟨b, o, A2, k2, hi2, hl2, hc2, hd2, hIB⟩ := HV.out.at_ (P := Tryz.prog) ulAts szAtt .i64 i hlt
      have g0 := (hbel.cell (p := ⟨b, o, none⟩) hl2).trans hc2
      have g1 := (hbel.cell (p := ⟨b, o + 1, none⟩) hl2).trans hd2
      have hzz := HZ.out _ (List.getElem_mem hlt)
      have HCALL := Lib.hid (rValX l[i].1 _ l[i].2 wr (hIB.below hbel) hzz.1 hzz.2)
      have hs : (marX (l[i].1, l[i].2)).isSome = true := (by have e1 : marX (l[i].1, l[i].2) = some ps[i] := HO.out i hlt hip; rw [e1]; rfl)
      rw [hs] at HCALL
      clear hbel hc2 hd2 hIB hzz hs
      generalize l[i] = a at *
      obtain ⟨s0, l0⟩ := a
      simp only at g0 g1 HCALL
      go_wp2_with (((go_at_call 59); (with_reducible refine HCALL.out.mono ?_); rintro e wd ⟨rfl, hbwd⟩; have HWD := Lib.hid (HBR.out.trans (hbwd.mono hszr)); clear hbwd))
      go_roundw
      case rel => exact ⟨i + 1, by go_num, by omega, HWD.out⟩
      case measure => simp [intOf]; omega
    · have hge : (l.length : Int) ≤ i := by omega
      have HVR := Lib.hid (HV.out.below hbel)
      clear hlt hi hbel
      go_wp2_with (first | ((go_at_call 58); (with_reducible refine (HPP.out _ HVR.out).mono ?_); rintro e w1 ⟨A1, k1, rfl, ho1, hbw1⟩; have HB1 := Lib.hid (HBR.out.trans (hbw1.mono hszr)); have HNB := Lib.hid ho1.isBs; clear ho1 hbw1) | ((go_at_call 66); (with_reducible refine (HSO.out _ _ HNB.out).mono ?_); rintro e w2 ⟨o2, ss, rfl, hso, hbs, hbw2⟩; have HBS := Lib.hid hbs; have hlo := HBS.out.len (P := Tryz.prog) ulBs; have HSO2 := Lib.hid hso; have HW2 := Lib.hid (HB1.out.trans (hbw2.mono HB1.out.size)); clear hbs hbw2))
      obtain ⟨Ao2, ko2, rfl⟩ := isBs_sl HBS.out
      obtain ⟨r, hr, hN⟩ := NewOf.of HOO.out HSO2.out HPL1.out
      have HNW := Lib.hid hN
      have HR := Lib.hid hr
      have hrl1 : r.length ≤ ss.length := Nat.le_of_eq (optL_len hr)
      have hrl2 : ss.length ≤ r.length := Nat.le_of_eq (optL_len hr).symm

      have hssl : ss.length ≤ 10000 := by have := asc_len HSO2.out.1 (fun x hx => (HSO2.out.2 x).1 hx); omega
      have HYL : Hid (∀ y ∈ ss, y.length ≤ 4000) := Lib.hid (fun y hy => HY9.out y ((HSO2.out.2 y).1 hy))
      have hr0 := hN.ne HL0.out
      have hrI : ((r.length : Int) == 0) = false := beq_eq_false_iff_ne.2 (by omega)
      have hw2 : w.heap.size ≤ w2.heap.size := HW2.out.size
      clear hN hr hso
      go_loopw [5, 7] (fun out ix wr => NqRel r w2 out ix wr) (fun _ ix _ => ss.length + 1 - (intOf ix).toNat)
      case atStart => exact ⟨0, rfl, Nat.zero_le _, OwL.nil_ _ _ _ _, Below.refl _ _⟩
      case round =>
        obtain ⟨i, rfl, hi, how, hbel⟩ := hrel
        have HOW := Lib.hid how
        have HBR := Lib.hid hbel
        have hszr := hbel.size
        by_cases hlt : i < ss.length
        · have hltI : (i : Int) < ss.length := by omega
          have hir : i < r.length := by omega
          obtain ⟨bb, oo, u, hi2, hbb, hc, hu⟩ := HBS.out.at_ (P := Tryz.prog) ulBs szBs .i64 (i := i) (by omega) hltI
          simp only [Int.toNat_natCast] at hu
          have hgd : ss.getD i [] = ss[i] := by simp [hlt]
          rw [hgd] at hu
          have cu : wr.cell? ⟨bb, oo, none⟩ = some u := below_cell hbel hbb hc
          have hple := HYL.out _ (List.getElem_mem hlt)
          have hpx := optL_at HR.out i hlt hir
          have hPX : ∀ W, IsB W u ss[i] → Calls Tryz.prog 67 #[u] W (RetPX1 r[i] W) := fun W h => rParX u ss[i] r[i] W h hple hpx
          have HPX := Lib.hid hPX
          unfold RetPX1 at HPX
          have HU := Lib.hid (hu.below hbel)
          have HTK := Lib.hid (show r.take (i + 1) = r.take i ++ [r[i]] by rw [List.take_succ_eq_append_getElem hir])
          have hll : (r.take i).length ≤ 100000 := by rw [List.length_take]; omega
          have HLL := Lib.hid hll
          obtain ⟨A5, k5, rfl⟩ := isB_slice hu
          clear how hbel hu hc hPX hpx hgd hll hple
          generalize ss[i] = y at *
          generalize r.take i = LL at *
          generalize r[i] = a at *
          obtain ⟨s, l'⟩ := a
          simp only at HPX
          go_wp2_with (first | ((go_at_call 67); (with_reducible refine (HPX.out _ HU.out).mono ?_); rintro e w4 ⟨A4, k4, rfl, ho4, hbw4⟩; have HV4 := Lib.hid ((IsRS.of_own ho4).weak (S' := fun b => wr.heap.size ≤ b) (fun b _ hS => hS)); have HB4 := Lib.hid (HBR.out.trans (hbw4.mono hszr)); have HOW4 := Lib.hid (HOW.out.below hbw4); have hs4 := HB4.out.size; clear ho4 hbw4) | (at_builtin; refine wpList_appL (r := repA) (X := fun _ => True) _ rfl _ _ 30 rfl w2.heap.size 58 ulRdn hj0 hy0 hy1 hy2 rfl (by decide) _ LL rfl ((HOW4.out.alloc _).alloc _) _ [.string s, .slice A4 l'.length k4] (s, l') rfl (isR_at rfl (by simp)) ⟨_, rfl, ?e1⟩ ?m1 ?m2 trivial ?_))
          case e1 => exact ((HV4.out.weak (S' := fun b => But w2.heap.size _ b) fun b hb hS => ⟨by omega, HOW.out.notNew hS⟩).alloc _).alloc _
          case m1 => have := HLL.out; omega
          case m2 => have := HB4.out.size; simp; omega
          intro v8 w8 ho8 hb8 hg8
          have HO8 := Lib.hid ho8
          have HB8 := Lib.hid (((HB4.out.alloc HB4.out.size (.cells #[.string s, .slice A4 l'.length k4] 58)).alloc (by simp; omega) (.cells #[.string s, .slice A4 l'.length k4] 58)).trans hb8)
          clear ho8 hb8 hg8
          go_wp2
          go_roundw
          case rel => exact ⟨i + 1, by go_num, by omega, by rw [HTK.out]; exact HO8.out, HB8.out⟩
          case measure => simp [intOf]; omega
        · have hie : i = r.length := by omega
          have how := HOW.out
          rw [hie, List.take_length] at how
          have HOE := Lib.hid how
          have hge : (ss.length : Int) ≤ i := by omega
          have hlo3 := how.isL.len (P := Tryz.prog) ulRdn
          obtain ⟨Ao, ko, hoe⟩ := how.slice
          subst hoe
          clear how hlt hi hie hbel
          go_wp2_with fail
          go_ret2
          exact ⟨r, _, _, HNW.out, rfl, HOE.out.more hw2, HW2.out.trans (HBR.out.mono hw2)⟩
def NyRel (w : World) (ix : Value) (wr : World) : Prop := ix = .int .i64 0 ∧ Below w.heap.size w wr
set_option maxRecDepth 100000 in
set_option maxHeartbeats 16000000 in
theorem rNewZ (v : Value) (w : World) (hv : IsQs w v []) : Calls Tryz.prog 40 #[v] w (RetB (.tuple #[.slice none 0 0, .int .i64 8]) w) := by
  have HSO : Hid (∀ W u, IsBs W u [] → Calls Tryz.prog 66 #[u] W (RetBs [] W)) := Lib.hid (fun W u h => rSorted u [] W h (by simp))
  have hlen := hv.len (P := Tryz.prog) ulAts
  have HV := Lib.hid hv
  obtain ⟨A, c, rfl⟩ := isQs_slice hv
  have HPP : Hid (∀ W, IsQs W (.slice A ([] : Rdn).length c) [] → Calls Tryz.prog 58 #[.slice A ([] : Rdn).length c] W (RetQs [] W)) := Lib.hid (fun W h => rPartsR _ [] [] W h (fun a ha => by simp at ha) (by simp) rfl)
  unfold RetQs at HPP
  simp only [List.length_nil] at hlen HPP HV ⊢
  clear hv
  go_enter Tryz.func40, Tryz.ntmps40
  go_wp2_with fail
  go_loopw [4] (fun ix wr => NyRel w ix wr) (fun _ _ => 1)
  case atStart => exact ⟨rfl, Below.refl _ _⟩
  case round =>
    obtain ⟨rfl, hbel⟩ := hrel
    have HBR := Lib.hid hbel
    have hszr := hbel.size
    have HVR := Lib.hid (HV.out.below hbel)
    clear hbel
    go_wp2_with (first | ((go_at_call 58); (with_reducible refine (HPP.out _ HVR.out).mono ?_); rintro e w1 ⟨A1, k1, rfl, ho1, hbw1⟩; have HB1 := Lib.hid (HBR.out.trans (hbw1.mono hszr)); have HNB := Lib.hid ho1.isBs; clear ho1 hbw1) | ((go_at_call 66); (with_reducible refine (HSO.out _ _ HNB.out).mono ?_); rintro e w2 ⟨o2, ss, rfl, hso, hbs, hbw2⟩; obtain rfl := sortOf_nil hso; have hlo := hbs.len (P := Tryz.prog) ulBs; simp only [List.length_nil] at hlo; have HB2 := Lib.hid (HB1.out.trans (hbw2.mono HB1.out.size)); clear hso hbs hbw2))
    go_loopw [5, 7] (fun out ix wr => NzRel w2 out ix wr) (fun _ _ _ => 1)
    case atStart => exact ⟨rfl, rfl, Below.refl _ _⟩
    case round =>
      obtain ⟨rfl, rfl, hbel⟩ := hrel
      have HBE := Lib.hid (HB2.out.trans (hbel.mono HB2.out.size))
      clear hbel
      go_wp2_with fail
      go_ret2
      exact ⟨rfl, HBE.out⟩
end Go.Proofs.YtlmnmgokfnnbbaaGreatDoor
end
