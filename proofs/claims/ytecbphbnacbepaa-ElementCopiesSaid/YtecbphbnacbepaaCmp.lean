/- Comparing: the ways of the program and of the reference, in the same world. -/
import Derived.Test.YtecbphbnacbepaaRefA
import Derived.Test.YtecbphbnacbepaaBase
set_option linter.unusedSimpArgs false
set_option linter.unusedVariables false
namespace Go.Proofs.Ytecbphbnacbepaa
open Go.RowKit Go.Cr

/-- Returned, and nothing turned. -/
def RetS (v : Value) (w : World) (e : Ending) (w' : World) : Prop := e = .returned v ∧ w' = w
/-- Returned, and only draws were made. -/
def RetD (v : Value) (w : World) (e : Ending) (w' : World) : Prop := e = .returned v ∧ ∃ n, w' = w.drewN n

theorem bodyPost_retD {P : Program} {fn : Func} {a : Act} {w w0 : World} {v v0 : Value} (h : (results fn a.tmps).run P w = .ok v w) (hd : a.defers = []) (hv : v = v0) (hb : ∃ n, w = w0.drewN n) :
    bodyPost P fn (RetD v0 w0) .ret a w := bodyPost_ret h hd ⟨by rw [hv], hb⟩

set_option maxHeartbeats 2000000 in
theorem isNaN_u8 (x : Int) (w : World) : Calls Try.prog 76 #[.int .u8 x] w (RetS (.bool false) w) := by
  go_enter Try.func76, Try.ntmps76
  go_wp2
  go_ret
  exact ⟨rfl, rfl⟩
def cmpI (x y : Int) : Int := if x < y then -1 else if y < x then 1 else 0
set_option maxHeartbeats 2000000 in
theorem cmp_u8 (x y : Int) (w : World) : Calls Try.prog 57 #[.int .u8 x, .int .u8 y] w (RetS (.int .i64 (cmpI x y)) w) := by
  rcases Int.lt_trichotomy x y with h | h | h
  · have HV : Hid (cmpI x y = -1) := by show cmpI x y = _; unfold cmpI; rw [if_pos h]
    go_enter Try.func57, Try.ntmps57
    go_wp2_with (go_at_call 76; (with_reducible refine (isNaN_u8 _ _).mono ?_); rintro e w1 ⟨rfl, rfl⟩)
    go_ret
    exact ⟨by rw [HV.out]; rfl, rfl⟩
  · have HV : Hid (cmpI x y = 0) := by show cmpI x y = _; unfold cmpI; rw [if_neg (by omega), if_neg (by omega)]
    subst h
    go_enter Try.func57, Try.ntmps57
    go_wp2_with (go_at_call 76; (with_reducible refine (isNaN_u8 _ _).mono ?_); rintro e w1 ⟨rfl, rfl⟩)
    go_ret
    exact ⟨by rw [HV.out]; rfl, rfl⟩
  · have HV : Hid (cmpI x y = 1) := by show cmpI x y = _; unfold cmpI; rw [if_neg (by omega), if_pos h]
    have h' : y ≤ x := by omega
    go_enter Try.func57, Try.ntmps57
    go_wp2_with (go_at_call 76; (with_reducible refine (isNaN_u8 _ _).mono ?_); rintro e w1 ⟨rfl, rfl⟩)
    go_ret
    exact ⟨by rw [HV.out]; rfl, rfl⟩
set_option maxHeartbeats 2000000 in
theorem cmp_clo (x y : Int) (w : World) : Calls Try.prog 56 #[.int .u8 x, .int .u8 y] w (RetS (.int .i64 (cmpI x y)) w) := by
  go_enter Try.func56, Try.ntmps56
  go_wp2_with (go_at_call 57; (with_reducible refine (cmp_u8 _ _ _).mono ?_); rintro e w1 ⟨rfl, rfl⟩)
  go_ret
  exact ⟨rfl, rfl⟩

set_option maxRecDepth 100000 in
set_option maxHeartbeats 2000000 in
theorem cmpFunc (v1 v2 : Value) (a b : List UInt8) (w : World) (h1 : IsB w v1 a) (h2 : IsB w v2 b) :
    Calls Try.prog 55 #[v1, v2, .func (.func 56) #[] #[]] w (RetS (.int .i64 (cmpL a b)) w) := by
  have hl1 := h1.len ulB
  have hl2 := h2.len ulB
  have hm1 := h1.maxl
  have hm2 := h2.maxl
  have H1 := Lib.hid h1
  have H2 := Lib.hid h2
  clear h1 h2
  go_enter Try.func55, Try.ntmps55
  go_wp2
  go_loop [13] (fun i => CRel a b i) (fun i => a.length - (intOf i).toNat)
  case atStart => exact ⟨0, by omega, by omega, rfl, fun j h => by omega⟩
  case round =>
    obtain ⟨k, hk1, hk2, rfl, heq⟩ := hrel
    have HE := Lib.hid heq
    clear heq
    by_cases hka : k < a.length
    · obtain ⟨b1, o1, hi1, hw1, hc1⟩ := H1.out.at_ (P := Try.prog) ulB szB .i64 (i := k) (by omega) (by omega)
      simp only [Int.toNat_natCast] at hc1
      have hka' : (k : Int) < a.length := by omega
      by_cases hkb : k < b.length
      · obtain ⟨b2, o2, hi2, hw2, hc2⟩ := H2.out.at_ (P := Try.prog) ulB szB .i64 (i := k) (by omega) (by omega)
        simp only [Int.toNat_natCast] at hc2
        have hkb' : (k : Int) < b.length := by omega
        rcases Int.lt_trichotomy (bat a k) (bat b k) with hlt | heq | hgt
        · have HV : Hid (cmpL a b = -1) := by show cmpL a b = _; rw [cmpL_lt hka hkb HE.out hlt]
          have hci : Hid (cmpI (bat a k) (bat b k) = -1) := by show cmpI _ _ = _; unfold cmpI; rw [if_pos hlt]
          go_wp2_with (go_at_call 56; (with_reducible refine (cmp_clo _ _ _).mono ?_); rw [hci.out]; rintro e w1 ⟨rfl, rfl⟩)
          go_ret
          exact ⟨by rw [HV.out]; rfl, rfl⟩
        · have hs : ∀ j, j < k + 1 → bat a j = bat b j := by
            intro j hj
            rcases Nat.lt_or_ge j k with h | h
            · exact HE.out j h
            · obtain rfl : j = k := by omega
              exact heq
          have HS := Lib.hid hs
          have hci : Hid (cmpI (bat a k) (bat b k) = 0) := by show cmpI _ _ = _; unfold cmpI; rw [if_neg (by omega), if_neg (by omega)]
          clear hs heq
          go_wp2_with (go_at_call 56; (with_reducible refine (cmp_clo _ _ _).mono ?_); rw [hci.out]; rintro e w1 ⟨rfl, rfl⟩)
          go_round
          case rel => exact ⟨k + 1, by omega, by omega, by go_num, HS.out⟩
          case measure => simp [intOf]; omega
        · have HV : Hid (cmpL a b = 1) := by show cmpL a b = _; rw [cmpL_gt hka hkb HE.out hgt]
          have hci : Hid (cmpI (bat a k) (bat b k) = 1) := by show cmpI _ _ = _; unfold cmpI; rw [if_neg (by omega), if_pos hgt]
          go_wp2_with (go_at_call 56; (with_reducible refine (cmp_clo _ _ _).mono ?_); rw [hci.out]; rintro e w1 ⟨rfl, rfl⟩)
          go_ret
          exact ⟨by rw [HV.out]; rfl, rfl⟩
      · have he := cmpL_end hk1 hk2 HE.out (.inr (by omega))
        have HV : Hid (cmpL a b = 1) := by show cmpL a b = _; rw [he, if_neg (by omega), if_pos (by omega)]
        have hkb' : (b.length : Int) ≤ k := by omega
        clear he
        go_wp2
        go_ret
        exact ⟨by rw [HV.out]; rfl, rfl⟩
    · have he := cmpL_end hk1 hk2 HE.out (.inl (by omega))
      have hka' : (a.length : Int) ≤ k := by omega
      rcases Nat.lt_trichotomy a.length b.length with h1 | h1 | h1
      · have HV : Hid (cmpL a b = -1) := by show cmpL a b = _; rw [he, if_pos (by omega)]
        have h1' : (a.length : Int) < b.length := by omega
        clear he
        go_wp2
        go_ret
        exact ⟨by rw [HV.out]; rfl, rfl⟩
      · have HV : Hid (cmpL a b = 0) := by show cmpL a b = _; rw [he, if_neg (by omega), if_neg (by omega)]
        have h1' : (b.length : Int) ≤ a.length := by omega
        clear he
        go_wp2
        go_ret
        exact ⟨by rw [HV.out]; rfl, rfl⟩
      · omega
set_option maxHeartbeats 2000000 in
theorem pCompare (v1 v2 : Value) (a b : List UInt8) (w : World) (h1 : IsB w v1 a) (h2 : IsB w v2 b) :
    Calls Try.prog 42 #[v1, v2] w (RetS (.int .i64 (cmpL a b)) w) := by
  have HC := Lib.hid (cmpFunc v1 v2 a b w h1 h2)
  clear h1 h2
  go_enter Try.func42, Try.ntmps42
  go_wp2_with (go_at_call 55; (with_reducible refine HC.out.mono ?_); rintro e w1 ⟨rfl, rfl⟩)
  go_ret
  exact ⟨rfl, rfl⟩
set_option maxHeartbeats 2000000 in
theorem sorted_clo (v1 v2 : Value) (a b : List UInt8) (w : World) (h1 : IsB w v1 a) (h2 : IsB w v2 b) :
    Calls Try.prog 44 #[v1, v2] w (RetS (.bool (decide (cmpL a b = 0))) w) := by
  have HC := Lib.hid (pCompare v1 v2 a b w h1 h2)
  clear h1 h2
  go_enter Try.func44, Try.ntmps44
  go_wp2_with (go_at_call 42; (with_reducible refine HC.out.mono ?_); rintro e w1 ⟨rfl, rfl⟩)
  go_ret
  exact ⟨by simp; rfl, rfl⟩
set_option maxHeartbeats 2000000 in
theorem bytes_s (a b : Value) (l : List UInt8) (w : World) (ha : IsB w a l) (hb : IsB w b l) :
    Calls Try.prog 20 #[a, b] w (RetS (.bool true) w) := by
  have h1 := isB_str ha
  have h2 := isB_str hb
  clear ha hb
  generalize strOf l = s at *
  go_enter Try.func20, Try.ntmps20
  go_wp2
  go_ret
  exact ⟨rfl, rfl⟩
set_option maxRecDepth 100000 in
set_option maxHeartbeats 2000000 in
theorem rCompare_d (v1 v2 : Value) (a b : List UInt8) (w : World) (h1 : IsB w v1 a) (h2 : IsB w v2 b) :
    Calls Try.prog 29 #[v1, v2] w (RetD (.int .i64 (cmpL a b)) w) := by
  have hl1 := h1.len ulB
  have hl2 := h2.len ulB
  have hm1 := h1.maxl
  have hm2 := h2.maxl
  have H1 := Lib.hid h1
  have H2 := Lib.hid h2
  clear h1 h2
  go_enter Try.func29, Try.ntmps29
  go_wp2
  go_loopw [5] (fun i wr => CRel a b i ∧ ∃ n, wr = w.drewN n) (fun i _ => a.length - (intOf i).toNat)
  case atStart => exact ⟨⟨0, by omega, by omega, rfl, fun j h => by omega⟩, 0, rfl⟩
  case round =>
    obtain ⟨⟨k, hk1, hk2, rfl, heq⟩, n, rfl⟩ := hrel
    have HE := Lib.hid heq
    clear heq
    by_cases hka : k < a.length
    · by_cases hkb : k < b.length
      · obtain ⟨b1, o1, hi1, hw1, hc1⟩ := H1.out.at_ (P := Try.prog) ulB szB .i64 (i := k) (by omega) (by omega)
        obtain ⟨b2, o2, hi2, hw2, hc2⟩ := H2.out.at_ (P := Try.prog) ulB szB .i64 (i := k) (by omega) (by omega)
        simp only [Int.toNat_natCast] at hc1 hc2
        rcases Int.lt_trichotomy (bat a k) (bat b k) with hlt | heq | hgt
        · have HV : Hid ((.int .i64 (cmpL a b) : Value) = .int .i64 (-1)) := by show (_ : Value) = _; rw [cmpL_lt hka hkb HE.out hlt]
          go_wp2
          go_quiet (fail)
          go_wp2
          (refine bodyPost_retD (by (simp only [results, Try.results29]; try go_simp)) rfl HV.out.symm ?_; (try simp only [World.drewN_drewN]); exact ⟨_, rfl⟩)
        · have hs : ∀ j, j < k + 1 → bat a j = bat b j := by
            intro j hj
            rcases Nat.lt_or_ge j k with h | h
            · exact HE.out j h
            · obtain rfl : j = k := by omega
              exact heq
          have HS := Lib.hid hs
          have hn1 : bat a k ≤ bat b k := by omega
          have hn2 : bat b k ≤ bat a k := by omega
          clear hs heq
          go_wp2
          go_quiet (fail)
          go_wp2
          go_quiet (fail)
          go_wp2
          go_roundw
          case rel => exact ⟨⟨k + 1, by omega, by omega, by go_num, HS.out⟩, _, rfl⟩
          case measure => simp [intOf]; omega
        · have HV : Hid ((.int .i64 (cmpL a b) : Value) = .int .i64 1) := by show (_ : Value) = _; rw [cmpL_gt hka hkb HE.out hgt]
          go_wp2
          go_quiet (fail)
          go_wp2
          go_quiet (fail)
          go_wp2
          (refine bodyPost_retD (by (simp only [results, Try.results29]; try go_simp)) rfl HV.out.symm ?_; (try simp only [World.drewN_drewN]); exact ⟨_, rfl⟩)
      · have he := cmpL_end hk1 hk2 HE.out (.inr (by omega))
        have hbk : b.length = k := by omega
        rcases Nat.lt_trichotomy a.length b.length with h1 | h1 | h1
        · omega
        · omega
        · have HV : Hid ((.int .i64 (cmpL a b) : Value) = .int .i64 1) := by show (_ : Value) = _; rw [he, if_neg (by omega), if_pos (by omega)]
          clear he hbk
          go_wp2
          (refine bodyPost_retD (by (simp only [results, Try.results29]; try go_simp)) rfl HV.out.symm ?_; (try simp only [World.drewN_drewN]); exact ⟨_, rfl⟩)
    · have he := cmpL_end hk1 hk2 HE.out (.inl (by omega))
      have hbk : a.length = k := by omega
      rcases Nat.lt_trichotomy a.length b.length with h1 | h1 | h1
      · have HV : Hid ((.int .i64 (cmpL a b) : Value) = .int .i64 (-1)) := by show (_ : Value) = _; rw [he, if_pos (by omega)]
        clear he hbk
        go_wp2
        (refine bodyPost_retD (by (simp only [results, Try.results29]; try go_simp)) rfl HV.out.symm ?_; (try simp only [World.drewN_drewN]); exact ⟨_, rfl⟩)
      · have HV : Hid ((.int .i64 (cmpL a b) : Value) = .int .i64 0) := by show (_ : Value) = _; rw [he, if_neg (by omega), if_neg (by omega)]
        have h1a : (a.length : Int) ≤ b.length := by omega
        have h1b : (b.length : Int) ≤ a.length := by omega
        clear he hbk h1
        go_wp2
        (refine bodyPost_retD (by (simp only [results, Try.results29]; try go_simp)) rfl HV.out.symm ?_; (try simp only [World.drewN_drewN]); exact ⟨_, rfl⟩)
      · omega
end Go.Proofs.Ytecbphbnacbepaa
