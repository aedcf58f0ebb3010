/- The parts RefX of one proof, one behind the other. -/
import Derived.Test.YtjjkimjdmpeddaaGreatDoorK25
import Derived.Test.YtjjkimjdmpeddaaGreatDoorK26

/- Walk over the reference's layer 7 (charset): Decode. -/
section
set_option linter.unusedSimpArgs false
set_option linter.unusedVariables false
namespace Go.Proofs.YtjjkimjdmpeddaaGreatDoor
open Go.RowKit Go.Cr
def RetEu (o : Option (List UInt8)) (w : World) (e : Ending) (w' : World) : Prop := ∃ (A : Option Addr) (n kk : Nat) (ec : Int), e = .returned (.tuple #[.slice A n kk, .int .i64 ec]) ∧ Below w.heap.size w w' ∧ ((o = none ∧ ec = 8) ∨ ∃ x, o = some x ∧ ec = 0 ∧ IsB w' (.slice A n kk) x)
theorem RetEe.uni {o : Option (List UInt8)} {w : World} {e : Ending} {w' : World} (h : RetEe o w e w') : RetEu o w e w' := by
  cases o with
  | none => exact ⟨none, 0, 0, 8, h.1, h.2, .inl ⟨rfl, rfl⟩⟩
  | some c =>
    obtain ⟨A, k, he, hv, hb⟩ := h
    exact ⟨A, _, k, 0, he, hb, .inr ⟨c, rfl, rfl, hv⟩⟩
theorem backR_len (n : Nat) (c : List UInt8) (hn : n ≤ 4) : (backR n c).length ≤ 4 * c.length := by
  unfold backR
  split
  · omega
  · rename_i h0
    have h1 := flatMap_len (fun x : Nat => octsR x) (units n (c.take (c.length / n * n))) (fun x _ => octsR_len _)
    have h2 : ∀ l : List UInt8, (units n l).length ≤ l.length := fun l => by
      induction l using len_ind with
      | h l ih =>
        by_cases hl : l = []
        · subst hl; simp [units_nil]
        · have hp := List.length_pos_iff.2 hl
          rw [units_step (by omega) l hl, List.length_cons]
          have := ih (l.drop n) (by simp; omega)
          simp at this
          omega
    have h3 := h2 (c.take (c.length / n * n))
    have h4 : (c.take (c.length / n * n)).length ≤ c.length := by rw [List.length_take]; omega
    omega
set_option maxRecDepth 100000 in
set_option maxHeartbeats 4000000 in
theorem rDec_no (k : Int) (v : Value) (c : List UInt8) (w : World) (hk : widthK k = none) (hv : IsB w v c) : Calls Tryz.prog 133 #[.int .i64 k, v] w (RetDe k none w) := by
  have HW : Hid (∀ W, Calls Tryz.prog 127 #[.int .i64 k] W fun e w' => e = .returned (.int .i64 (-1)) ∧ w' = W) := fun W => by have := width_any k W; unfold widR at this; rw [hk] at this; exact this
  obtain ⟨A, cp, rfl⟩ := isB_slice hv
  clear hk hv
  go_enter Tryz.func133, Tryz.ntmps133
  go_wp2_with (((go_at_call 127); (with_reducible refine (HW.out _).mono ?_); rintro e w2 ⟨rfl, hww⟩; rw [hww]; clear hww))
  refine bodyPost_ret (v := .tuple #[.agg #[.int .i64 0, .string ⟨#[]⟩], .int .i64 3]) (by simp only [results, Tryz.results133]; go_simp) rfl ?_
  exact ⟨by ((repeat' (first | (with_reducible exact Below.refl _ _) | (with_reducible assumption) | (with_reducible refine Below.setCell ?_ ?_ _) | (with_reducible refine Below.alloc ?_ ?_ _) | (with_reducible refine Below.drew ?_) | (with_reducible refine below_drewN ?_ _) | (with_reducible refine Below.step (by with_reducible assumption) ?_ ?_))) <;> (first | omega | (simp; done) | (simp; omega))), .inl ⟨rfl, 3, by decide, rfl⟩⟩

def Back (k : Int) (n : Nat) (c : List UInt8) : Prop := (∀ W, Calls Tryz.prog 91 #[.agg #[.int .i64 k, .string (bStr (backR n c))]] W (RetEu (encT k (backR n c)) W)) ∧ (∀ W u x v, IsB W u x → IsB W v c → Calls Tryz.prog 21 #[u, v] W (RetB (.bool (decide (x = c))) W)) ∧
  (encT k (backR n c) = some c → decT k c = some (backR n c)) ∧ (encT k (backR n c) ≠ some c → decT k c = none)
theorem back_any (k : Int) (n : Nat) (c : List UInt8) (hk : widthK k = some n) (hl : c.length ≤ 20000) : Back k n c := by
  have hn4 := widthK_small hk
  have hbl := backR_len n c (by omega)
  refine ⟨fun W => ?_, fun W u x v h1 h2 => bytes_any u v x c W h1 h2, (decT_back hk).2, fun hne => ?_⟩
  · have h := rEncode7 k (bStr (backR n c)) W (by show (backR n c).toArray.size ≤ _; simp; omega)
    have e : (bStr (backR n c)).data.toList = backR n c := by simp [bStr]
    rw [e] at h
    exact h.mono fun e w' hh => hh.uni
  · cases hd : decT k c with
    | none => rfl
    | some s => exact absurd ((decT_back hk).1 s hd).2 hne

set_option maxRecDepth 100000 in
set_option maxHeartbeats 4000000 in
theorem rDec_0 (k : Int) (v : Value) (c : List UInt8) (w : World) (hk : widthK k = some 0) (hv : IsB w v c) (hl : c.length ≤ 20000) : Calls Tryz.prog 133 #[.int .i64 k, v] w (RetDe k (decT k c) w) := by
  obtain ⟨hE, hY, h1, h2⟩ := back_any k 0 c hk hl
  obtain ⟨SS, hS⟩ : ∃ SS, backR 0 c = SS := ⟨_, rfl⟩
  rw [hS] at hE h1 h2
  have HE := Lib.hid hE
  have HY := Lib.hid hY
  have H1 := Lib.hid h1
  have H2 := Lib.hid h2
  have HW : Hid (∀ W, Calls Tryz.prog 127 #[.int .i64 k] W fun e w' => e = .returned (.int .i64 (0 : Nat)) ∧ w' = W) := fun W => by have := width_any k W; unfold widR at this; rw [hk] at this; exact this
  have hlen := hv.len (P := Tryz.prog) ulB
  have HV0 := Lib.hid hv
  obtain ⟨A, cp, rfl⟩ := isB_slice hv
  have hSc : SS = c := by rw [← hS]; rfl
  obtain ⟨DO, hDO⟩ : ∃ DO, decT k c = DO := ⟨_, rfl⟩
  rw [hDO] at H1 H2 ⊢
  have HL := Lib.hid hl
  have HSC := Lib.hid hSc
  clear hk hv hE hY h1 h2 hS hSc hDO hl
  have HW : Hid (∀ W, Calls Tryz.prog 127 #[.int .i64 k] W fun e w' => e = .returned (.int .i64 0) ∧ w' = W) := HW
  go_enter Tryz.func133, Tryz.ntmps133
  go_wp2_with (first | ((go_at_call 127); (with_reducible refine (HW.out _).mono ?_); rintro e w2 ⟨rfl, hww⟩; rw [hww]; clear hww) | (at_builtin; refine wpList_appB _ rfl _ _ 32 rfl (w.heap.size + 1) 5 ulB infoB _ _ rfl (OwB.nil_ _ _ _) _ c rfl (HV0.out.alloc _) ?k1 ?k2 ?_))
  case k1 => have := HL.out; simp; omega
  case k2 => simp
  intro v4 wr ho4 _ hb4
  have HS : Hid (OwB wr (w.heap.size + 1) 5 v4 SS) := by
    show OwB _ _ _ _ _
    rw [HSC.out]
    simpa using ho4
  have HB := Lib.hid (((Below.refl _ w).alloc (Nat.le_refl _) (.cells #[.int .i64 0, .string ⟨#[]⟩] 27)).trans (hb4.mono (by omega)))
  have HI : Hid (Blk wr w.heap.size 27 #[.int .i64 0, .string ⟨#[]⟩]) := (hb4.block w.heap.size (by omega)).trans (Blk.new w _ _)
  have HVr := Lib.hid (HV0.out.below HB.out)
  go_wp2_with fail
  go_loopw [7, 8] (fun out ix wq => out = v4 ∧ ix = .int .i64 0 ∧ wq = wr) (fun _ _ _ => 0)
  case atStart => exact ⟨rfl, rfl, rfl⟩
  case round =>
    obtain ⟨rfl, rfl, rfl⟩ := hrel
    have hcv := isB_bstr HS.out.isB
    have qZ := HI.out.q
    have fZ := HI.out.fz
    have lZ := HI.out.lt
    clear ho4 hb4
    obtain ⟨S, hSS⟩ : ∃ S, bStr SS = S := ⟨_, rfl⟩
    rw [hSS] at hcv HE
    have HSS := Lib.hid hSS
    clear hSS
    go_upto_region 18 with (((go_at_call 91); (with_reducible refine (HE.out _).mono ?_); rintro e w5 ⟨A5, n5, k5, ec, rfl, hb5, hres⟩; have I5 := Blk.call (HI.out.alloc _) hb5; have T5 := Blk.call (Blk.new _ 27 #[.int .i64 k, .string S]) hb5))
    have q5 := I5.q
    have f5 := I5.fz
    have l5 := I5.lt
    have p5 := T5.q
    have HT5 := Lib.hid T5
    have HI5 := Lib.hid I5
    have HB5 := Lib.hid ((HB.out.alloc HB.out.size _).trans (hb5.mono (by have := HB.out.size; simp; omega)))
    have HV5 := Lib.hid ((HVr.out.alloc (.cells #[.int .i64 k, .string S] 27)).below hb5)
    clear hb5 qZ fZ lZ I5 T5 hcv
    rcases hres with ⟨hn, rfl⟩ | ⟨x, hx, rfl, hvx⟩
    · have hd := H2.out (by rw [hn]; simp)
      have HD := Lib.hid hd
      clear hn hd
      go_wp2_with fail
      refine bodyPost_ret (v := .tuple #[.agg #[.int .i64 0, .string ⟨#[]⟩], .int .i64 6]) (by simp only [results, Tryz.results133]; go_simp) rfl ?_
      have b5 := HB5.out
      exact ⟨by ((repeat' (first | (with_reducible exact Below.refl _ _) | (with_reducible assumption) | (with_reducible refine Below.setCell ?_ ?_ _) | (with_reducible refine Below.alloc ?_ ?_ _) | (with_reducible refine Below.drew ?_) | (with_reducible refine below_drewN ?_ _) | (with_reducible refine Below.step (by with_reducible assumption) ?_ ?_))) <;> (first | omega | (simp; done) | (simp; omega))), .inl ⟨HD.out, 6, by decide, rfl⟩⟩
    · have HX := Lib.hid hvx
      clear hvx
      have HYx := Lib.hid (HY.out w5 (.slice A5 n5 k5) x _ HX.out HV5.out)
      by_cases hxc : x = c
      · have hd := H1.out (by rw [hx, hxc])
        have HD := Lib.hid hd
        rw [decide_eq_true hxc] at HYx
        clear hx hxc hd
        go_wp2_with (((go_at_call 21); (with_reducible refine (HYx.out).mono ?_); rintro e w6 ⟨rfl, hb6⟩; have I6 := Blk.call HI5.out hb6; have T6 := Blk.call HT5.out hb6; have q6 := I6.q; have f6 := I6.fz; have l6 := I6.lt; have p6 := T6.q; have HB6 := Lib.hid (HB5.out.trans (hb6.mono HB5.out.size)); clear hb6))
        refine bodyPost_ret (v := .tuple #[.agg #[.int .i64 k, .string S], .int .i64 0]) (by simp only [results, Tryz.results133]; go_simp) rfl ?_
        have b6 := HB6.out
        exact ⟨by ((repeat' (first | (with_reducible exact Below.refl _ _) | (with_reducible assumption) | (with_reducible refine Below.setCell ?_ ?_ _) | (with_reducible refine Below.alloc ?_ ?_ _) | (with_reducible refine Below.drew ?_) | (with_reducible refine below_drewN ?_ _) | (with_reducible refine Below.step (by with_reducible assumption) ?_ ?_))) <;> (first | omega | (simp; done) | (simp; omega))), .inr ⟨SS, HD.out, by rw [HSS.out]⟩⟩
      · have hd := H2.out (by rw [hx]; exact fun h => hxc (Option.some.inj h))
        have HD := Lib.hid hd
        rw [decide_eq_false hxc] at HYx
        clear hx hxc hd
        go_wp2_with (((go_at_call 21); (with_reducible refine (HYx.out).mono ?_); rintro e w6 ⟨rfl, hb6⟩; have I6 := Blk.call HI5.out hb6; have q6 := I6.q; have f6 := I6.fz; have l6 := I6.lt; have HB6 := Lib.hid (HB5.out.trans (hb6.mono HB5.out.size)); clear hb6))
        refine bodyPost_ret (v := .tuple #[.agg #[.int .i64 0, .string ⟨#[]⟩], .int .i64 6]) (by simp only [results, Tryz.results133]; go_simp) rfl ?_
        have b6 := HB6.out
        exact ⟨by ((repeat' (first | (with_reducible exact Below.refl _ _) | (with_reducible assumption) | (with_reducible refine Below.setCell ?_ ?_ _) | (with_reducible refine Below.alloc ?_ ?_ _) | (with_reducible refine Below.drew ?_) | (with_reducible refine below_drewN ?_ _) | (with_reducible refine Below.step (by with_reducible assumption) ?_ ?_))) <;> (first | omega | (simp; done) | (simp; omega))), .inl ⟨HD.out, 6, by decide, rfl⟩⟩

def DoRel (n : Nat) (c : List UInt8) (w1 : World) (b : Nat) (out ix : Value) (wr : World) : Prop := ∃ q i : Nat, i = q * n ∧ ix = .int .i64 (i : Int) ∧ i ≤ c.length ∧ OwB wr b 5 out ((units n (c.take i)).flatMap (fun x : Nat => octsR x)) ∧ Below b w1 wr
def DiRel (n i : Nat) (c : List UInt8) (xx kk : Value) : Prop := ∃ j : Nat, j ≤ n ∧ kk = .int .i64 (j : Int) ∧ xx = .int .i64 ((unitN ((c.drop i).take j) : Nat) : Int)
theorem unit_snoc (c : List UInt8) (i j : Nat) (h : i + j < c.length) : ((unitN ((c.drop i).take (j + 1)) : Nat) : Int) = ((unitN ((c.drop i).take j) : Nat) : Int) * 256 + bat c (i + j) := by
  have hl : j < (c.drop i).length := by rw [List.length_drop]; omega
  rw [List.take_succ_eq_append_getElem hl, unitN_snoc, bat_eq c (i + j) h]
  have : (c.drop i)[j]'hl = c[i + j] := by rw [List.getElem_drop]
  rw [this]
  unfold bi
  omega
theorem units_more (c : List UInt8) (n q i : Nat) (hn : 0 < n) (hi : i = q * n) (h : i + n ≤ c.length) : (units n (c.take (i + n))).flatMap (fun x : Nat => octsR x) = (units n (c.take i)).flatMap (fun x : Nat => octsR x) ++ octsR ((unitN ((c.drop i).take n) : Nat) : Int) := by
  have h1 : c.take (i + n) = c.take i ++ (c.drop i).take n := List.take_add
  have h2 : units n (c.take i ++ (c.drop i).take n) = units n (c.take i) ++ units n ((c.drop i).take n) := units_app hn _ _ (by rw [List.length_take, Nat.min_eq_left (by omega), hi]; exact Nat.mul_mod_left q n)
  have h3 : units n ((c.drop i).take n) = [unitN ((c.drop i).take n)] := units_one hn _ (by rw [List.length_take, List.length_drop]; omega)
  rw [h1, h2, h3, List.flatMap_append]
  simp only [List.flatMap_cons, List.flatMap_nil, List.append_nil]
set_option maxRecDepth 100000 in
set_option maxHeartbeats 8000000 in
theorem rDec_w (k : Int) (m : Nat) (v : Value) (c : List UInt8) (w : World) (hk : widthK k = some (m + 1)) (hv : IsB w v c) (hl : c.length ≤ 20000) : Calls Tryz.prog 133 #[.int .i64 k, v] w (RetDe k (decT k c) w) := by
  have hn4 := widthK_small hk
  obtain ⟨n, hn⟩ : ∃ n, m + 1 = n := ⟨_, rfl⟩
  rw [hn] at hk
  have hn0 : 0 < n := by omega
  have hnn4 : n ≤ 4 := by omega
  clear hn hn4
  obtain ⟨hE, hY, h1, h2⟩ := back_any k n c hk hl
  obtain ⟨SS, hS⟩ : ∃ SS, backR n c = SS := ⟨_, rfl⟩
  rw [hS] at hE h1 h2
  have HE := Lib.hid hE
  have HY := Lib.hid hY
  have H1 := Lib.hid h1
  have H2 := Lib.hid h2
  have HW : Hid (∀ W, Calls Tryz.prog 127 #[.int .i64 k] W fun e w' => e = .returned (.int .i64 (n : Nat)) ∧ w' = W) := fun W => by have := width_any k W; unfold widR at this; rw [hk] at this; exact this
  have hlen := hv.len (P := Tryz.prog) ulB
  have HV0 := Lib.hid hv
  obtain ⟨DO, hDO⟩ : ∃ DO, decT k c = DO := ⟨_, rfl⟩
  rw [hDO] at H1 H2 ⊢
  have HL := Lib.hid hl
  have HSB := Lib.hid hS
  have hn0I : (0 : Int) < n := by omega
  have hn4I : (n : Int) ≤ 4 := by omega
  have hnz : ((n : Int) == 0) = false := beq_eq_false_iff_ne.2 (by omega)
  have hnl : decide ((n : Int) < 0) = false := decide_eq_false (by omega)
  have hlI : (c.length : Int) ≤ 20000 := by omega
  have HNN := Lib.hid hn0
  have HN4 := Lib.hid hnn4
  have hat := fun (W : World) (h : IsB W v c) (i : Int) (h0 : 0 ≤ i) (h1 : i < c.length) => h.at_ (P := Tryz.prog) ulB szB .i64 h0 h1
  have HAT := Lib.hid hat
  obtain ⟨A, cp, rfl⟩ := isB_slice hv
  clear hk hv hE hY h1 h2 hS hDO hl hat hn0 hnn4
  go_enter Tryz.func133, Tryz.ntmps133
  go_wp2_with (((go_at_call 127); (with_reducible refine (HW.out _).mono ?_); rintro e w2 ⟨rfl, hww⟩; rw [hww]; clear hww))
  have HV1 := Lib.hid (HV0.out.alloc (.cells #[.int .i64 0, .string ⟨#[]⟩] 27))
  have HBW := Lib.hid ((Below.refl _ w).alloc (Nat.le_refl _) (.cells #[.int .i64 0, .string ⟨#[]⟩] 27))
  have hI1 : Blk (w.alloc (.cells #[.int .i64 0, .string ⟨#[]⟩] 27)) w.heap.size 27 #[.int .i64 0, .string ⟨#[]⟩] := Blk.new w _ _
  have HI1 := Lib.hid hI1
  have hsz1 : (w.alloc (.cells #[.int .i64 0, .string ⟨#[]⟩] 27)).heap.size = w.heap.size + 1 := by simp
  have HSZ := Lib.hid hsz1
  clear hI1 hsz1
  generalize w.alloc (.cells #[.int .i64 0, .string ⟨#[]⟩] 27) = w1 at *
  go_loopw [7, 8] (fun out ix wr => DoRel n c w1 w1.heap.size out ix wr) (fun _ ix _ => c.length + 1 - (intOf ix).toNat)
  case atStart => exact ⟨0, 0, by simp, rfl, Nat.zero_le _, by simpa [units_nil] using OwB.nil_ _ _ _, Below.refl _ _⟩
  case round =>
    obtain ⟨q, i, hqi, rfl, hil, how, hbel⟩ := hrel
    have HQI := Lib.hid hqi
    have HOW := Lib.hid how
    have HBR := Lib.hid hbel
    have HVr := Lib.hid (HV1.out.below hbel)
    have HI := Lib.hid (Blk.call HI1.out hbel)
    clear how hbel hqi
    by_cases hlt : i + n ≤ c.length
    · have hltI : (i : Int) + n ≤ c.length := by omega
      have HLT := Lib.hid hlt
      go_wp2_with fail
      go_loop [9, 10] (fun xx kk => DiRel n i c xx kk) (fun _ kk => n + 1 - (intOf kk).toNat)
      case atStart => exact ⟨0, Nat.zero_le _, rfl, by simp [unitN]⟩
      case round =>
        obtain ⟨j, hj, rfl, rfl⟩ := hrel
        have hxb := unitN_lt ((c.drop i).take j)
        have hxl : ((c.drop i).take j).length = j := by rw [List.length_take, List.length_drop]; have := HLT.out; omega
        rw [hxl] at hxb
        by_cases hjn : j < n
        · obtain ⟨p, hp⟩ : ∃ p, p = i + j := ⟨_, rfl⟩
          have hpl : p < c.length := by have := HLT.out; omega
          have hpI : (i : Int) + (j : Int) = (p : Int) := by omega
          obtain ⟨b2, o2, hi2, hl2, hc2⟩ := HAT.out wr HVr.out (p : Int) (by omega) (by omega)
          rw [Int.toNat_natCast] at hc2
          have hy0 := bat_pos c p
          have hy1 := bat_lt c p
          have hp3 : (256 : Nat) ^ j ≤ 256 ^ 3 := Nat.pow_le_pow_right (by decide) (by have := HN4.out; omega)
          have hp4 : (256 : Nat) ^ 3 = 16777216 := by decide
          have hsn := unit_snoc c i j (by omega)
          rw [← hp] at hsn
          obtain ⟨x, hx⟩ : ∃ x, unitN ((c.drop i).take j) = x := ⟨_, rfl⟩
          rw [hx] at hxb hsn
          have hxI : (x : Int) < 16777216 := by omega
          have hjI : (j : Int) < n := by omega
          have HSN := Lib.hid hsn
          rw [hx]
          clear hp hxb hxl hp3 hp4 hsn hx hpl
          generalize bat c p = y at *
          go_wp2_with fail
          go_round
          case rel => exact ⟨j + 1, by omega, by go_num, by rw [HSN.out]⟩
          case measure => simp [intOf]; omega
        · have hje : j = n := by omega
          subst hje
          have hp3 : (256 : Nat) ^ j ≤ 256 ^ 4 := Nat.pow_le_pow_right (by decide) (by have := HN4.out; omega)
          have hp4 : (256 : Nat) ^ 4 = 4294967296 := by decide
          obtain ⟨x, hx⟩ : ∃ x, unitN ((c.drop i).take j) = x := ⟨_, rfl⟩
          rw [hx] at hxb
          have hxI : x < 1099511627776 := by omega
          have HO : Hid (∀ W, Calls Tryz.prog 128 #[.int .i64 (x : Int)] W (RetO 5 (octsR (x : Int)) W)) := fun W => octets_any x W hxI
          have hum := units_more c j q i HNN.out HQI.out HLT.out
          rw [hx] at hum
          have HUM := Lib.hid hum
          have hob : ((units j (c.take i)).flatMap (fun x : Nat => octsR x)).length ≤ 80000 := by
            have h1 := backR_len j (c.take i) (by have := HN4.out; omega)
            have h2 : (c.take i).length = i := by rw [List.length_take]; omega
            unfold backR at h1
            rw [if_neg (by have := HNN.out; omega), h2, HQI.out, Nat.mul_div_cancel _ HNN.out, ← HQI.out, List.take_take, Nat.min_self] at h1
            have := HL.out
            omega
          have HOB := Lib.hid hob
          have HOX := Lib.hid (octsR_len (x : Int))
          have hgeI : (j : Int) ≤ j := Int.le_refl _
          rw [hx]
          clear hxb hxl hp3 hp4 hx hum hob hjn
          generalize hLg : (units j (c.take i)).flatMap (fun x : Nat => octsR x) = LL at *
          go_wp2_with (first | ((go_at_call 128); (with_reducible refine (HO.out _).mono ?_); rintro e w3 ⟨v3, rfl, ho3, hbw3⟩; have HO3 := Lib.hid ho3; have HB3 := Lib.hid hbw3; clear ho3 hbw3) | (at_builtin; refine wpList_appB _ rfl _ _ 32 rfl w1.heap.size 5 ulB infoB _ _ rfl (HOW.out.below HB3.out) _ (octsR (x : Int)) rfl HO3.out.isB ?k1 ?k2 ?_))
          case k1 => have := HOB.out; have := HOX.out; omega
          case k2 => have := HB3.out.size; have := HBR.out.size; omega
          intro v4 w4 ho4 _ hb4
          have HO4 := Lib.hid ho4
          have HB4 := Lib.hid ((HBR.out.trans (HB3.out.mono HBR.out.size)).trans hb4)
          clear ho4 hb4
          go_wp2
          go_roundw
          case rel => exact ⟨q + 1, i + j, by rw [HQI.out, Nat.succ_mul], by (first | go_num | (congr 1; omega)), HLT.out, by rw [HUM.out]; exact HO4.out, HB4.out⟩
          case measure => simp [intOf]; have := HNN.out; omega
    · have hgeI : (c.length : Int) < (i : Int) + n := by omega
      have hiI : (i : Int) ≤ 20000 := by omega
      have hie : i = c.length / n * n := by
        have h1 := HQI.out
        have h2 := HNN.out
        have h3 : c.length / n = q := by
          apply Nat.div_eq_of_lt_le
          · omega
          · rw [Nat.succ_mul]; omega
        rw [h3]; exact h1
      have HSS0 : Hid ((units n (c.take i)).flatMap (fun x : Nat => octsR x) = SS) := by
        show _ = _
        rw [← HSB.out]
        unfold backR
        rw [if_neg (by have := HNN.out; omega), ← hie]
      have how := HOW.out
      rw [HSS0.out] at how
      have HS := Lib.hid how
      have HB := Lib.hid (HBW.out.trans (HBR.out.mono (by have := HSZ.out; omega)))
      have hcv := isB_bstr HS.out.isB
      have qZ := HI.out.q
      have fZ := HI.out.fz
      have lZ := HI.out.lt
      clear how hie hil
      obtain ⟨S, hSS⟩ : ∃ S, bStr SS = S := ⟨_, rfl⟩
      rw [hSS] at hcv HE
      have HSS := Lib.hid hSS
      clear hSS
      go_upto_region 18 with (((go_at_call 91); (with_reducible refine (HE.out _).mono ?_); rintro e w5 ⟨A5, n5, k5, ec, rfl, hb5, hres⟩; have I5 := Blk.call (HI.out.alloc _) hb5; have T5 := Blk.call (Blk.new _ 27 #[.int .i64 k, .string S]) hb5))
      have q5 := I5.q
      have f5 := I5.fz
      have l5 := I5.lt
      have p5 := T5.q
      have HT5 := Lib.hid T5
      have HI5 := Lib.hid I5
      have HB5 := Lib.hid ((HB.out.alloc HB.out.size _).trans (hb5.mono (by have := HB.out.size; simp; omega)))
      have HV5 := Lib.hid ((HVr.out.alloc (.cells #[.int .i64 k, .string S] 27)).below hb5)
      clear hb5 qZ fZ lZ I5 T5 hcv
      rcases hres with ⟨hn, rfl⟩ | ⟨x, hx, rfl, hvx⟩
      · have hd := H2.out (by rw [hn]; simp)
        have HD := Lib.hid hd
        clear hn hd
        go_wp2_with fail
        refine bodyPost_ret (v := .tuple #[.agg #[.int .i64 0, .string ⟨#[]⟩], .int .i64 6]) (by simp only [results, Tryz.results133]; go_simp) rfl ?_
        have b5 := HB5.out
        exact ⟨by ((repeat' (first | (with_reducible exact Below.refl _ _) | (with_reducible assumption) | (with_reducible refine Below.setCell ?_ ?_ _) | (with_reducible refine Below.alloc ?_ ?_ _) | (with_reducible refine Below.drew ?_) | (with_reducible refine below_drewN ?_ _) | (with_reducible refine Below.step (by with_reducible assumption) ?_ ?_))) <;> (first | omega | (simp; done) | (simp; omega))), .inl ⟨HD.out, 6, by decide, rfl⟩⟩
      · have HX := Lib.hid hvx
        clear hvx
        have HYx := Lib.hid (HY.out w5 (.slice A5 n5 k5) x _ HX.out HV5.out)
        by_cases hxc : x = c
        · have hd := H1.out (by rw [hx, hxc])
          have HD := Lib.hid hd
          rw [decide_eq_true hxc] at HYx
          clear hx hxc hd
          go_wp2_with (((go_at_call 21); (with_reducible refine (HYx.out).mono ?_); rintro e w6 ⟨rfl, hb6⟩; have I6 := Blk.call HI5.out hb6; have T6 := Blk.call HT5.out hb6; have q6 := I6.q; have f6 := I6.fz; have l6 := I6.lt; have p6 := T6.q; have HB6 := Lib.hid (HB5.out.trans (hb6.mono HB5.out.size)); clear hb6))
          refine bodyPost_ret (v := .tuple #[.agg #[.int .i64 k, .string S], .int .i64 0]) (by simp only [results, Tryz.results133]; go_simp) rfl ?_
          have b6 := HB6.out
          exact ⟨by ((repeat' (first | (with_reducible exact Below.refl _ _) | (with_reducible assumption) | (with_reducible refine Below.setCell ?_ ?_ _) | (with_reducible refine Below.alloc ?_ ?_ _) | (with_reducible refine Below.drew ?_) | (with_reducible refine below_drewN ?_ _) | (with_reducible refine Below.step (by with_reducible assumption) ?_ ?_))) <;> (first | omega | (simp; done) | (simp; omega))), .inr ⟨SS, HD.out, by rw [HSS.out]⟩⟩
        · have hd := H2.out (by rw [hx]; exact fun h => hxc (Option.some.inj h))
          have HD := Lib.hid hd
          rw [decide_eq_false hxc] at HYx
          clear hx hxc hd
          go_wp2_with (((go_at_call 21); (with_reducible refine (HYx.out).mono ?_); rintro e w6 ⟨rfl, hb6⟩; have I6 := Blk.call HI5.out hb6; have q6 := I6.q; have f6 := I6.fz; have l6 := I6.lt; have HB6 := Lib.hid (HB5.out.trans (hb6.mono HB5.out.size)); clear hb6))
          refine bodyPost_ret (v := .tuple #[.agg #[.int .i64 0, .string ⟨#[]⟩], .int .i64 6]) (by simp only [results, Tryz.results133]; go_simp) rfl ?_
          have b6 := HB6.out
          exact ⟨by ((repeat' (first | (with_reducible exact Below.refl _ _) | (with_reducible assumption) | (with_reducible refine Below.setCell ?_ ?_ _) | (with_reducible refine Below.alloc ?_ ?_ _) | (with_reducible refine Below.drew ?_) | (with_reducible refine below_drewN ?_ _) | (with_reducible refine Below.step (by with_reducible assumption) ?_ ?_))) <;> (first | omega | (simp; done) | (simp; omega))), .inl ⟨HD.out, 6, by decide, rfl⟩⟩

theorem rDecode7 (k : Int) (v : Value) (c : List UInt8) (w : World) (hv : IsB w v c) (hl : c.length ≤ 20000) : Calls Tryz.prog 133 #[.int .i64 k, v] w (RetDe k (decT k c) w) := by
  cases hk : widthK k with
  | none =>
    have : decT k c = none := by unfold decT; rw [hk]
    rw [this]
    exact rDec_no k v c w hk hv
  | some n =>
    cases n with
    | zero => exact rDec_0 k v c w hk hv hl
    | succ m => exact rDec_w k m v c w hk hv hl
end Go.Proofs.YtjjkimjdmpeddaaGreatDoor
end
