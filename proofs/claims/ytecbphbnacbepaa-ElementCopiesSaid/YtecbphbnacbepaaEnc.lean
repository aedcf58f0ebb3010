/- Walks over the making of elements: Identifier, Length, Encode, Wrap, Sequence, in the program and in the references. -/
import Derived.Test.YtecbphbnacbepaaCat
import Derived.Test.YtecbphbnacbepaaRefC
set_option linter.unusedSimpArgs false
set_option linter.unusedVariables false
namespace Go.Proofs.Ytecbphbnacbepaa
open Go.RowKit Go.Cr

set_option maxRecDepth 100000 in
set_option maxHeartbeats 2000000 in
theorem rIdent_bad (c n : Int) (k : Bool) (w : World) (h : c < 0 ∨ 3 < c ∨ n < 0 ∨ 31 ≤ n) :
    Calls Try.prog 34 #[.int .i64 c, .bool k, .int .i64 n] w fun e w' => e = .returned (.tuple #[.int .u8 0, .int .i64 9]) ∧ w = w' := by
  go_enter Try.func34, Try.ntmps34
  go_wp2
  all_goals first | (exfalso; omega) | (go_ret2; exact ⟨rfl, rfl⟩)

set_option maxRecDepth 100000 in
set_option maxHeartbeats 2000000 in
theorem rIdent_good (c n : Int) (k : Bool) (w : World) (h : 0 ≤ c) (h1 : c ≤ 3) (h2 : 0 ≤ n) (h3 : n < 31) :
    Calls Try.prog 34 #[.int .i64 c, .bool k, .int .i64 n] w fun e w' => e = .returned (.tuple #[.int .u8 (c * 64 + n + if k then 32 else 0), .int .i64 0]) ∧ w = w' := by
  cases k
  · go_enter Try.func34, Try.ntmps34
    go_wp2
    go_ret2
    exact ⟨by simp, rfl⟩
  · go_enter Try.func34, Try.ntmps34
    go_wp2
    go_ret2
    exact ⟨by simp, rfl⟩

set_option maxRecDepth 100000 in
set_option maxHeartbeats 2000000 in
theorem pLength (n : Int) (w : World) (h0 : 0 ≤ n) (h1 : n ≤ 2147483647) : Calls Try.prog 50 #[.int .i64 n] w (RetOK 5 (lenOct n.toNat) w) := by
  have IH := Lib.hid (pMinimal n.toNat · (by rw [show (256 : Nat) ^ 8 = 18446744073709551616 by decide]; omega))
  rw [show ((n.toNat : Nat) : Int) = n by omega] at IH
  obtain ⟨hm1, hm2⟩ := minF_len 7 n.toNat
  by_cases hlt : n < 128
  · have HM : Hid (lenOct n.toNat = minF 7 n.toNat) := by show lenOct n.toNat = _; unfold lenOct; rw [if_pos (by omega)]
    generalize minF 7 n.toNat = m at *
    go_enter Try.func50, Try.ntmps50
    go_wp2_with (first | (go_at_call 64; (with_reducible refine (IH.out _).mono ?_); rintro e w1 ⟨v1, rfl, ho, hb1⟩; have HO := Lib.hid ho; clear ho))
    go_ret2
    rw [HM.out]
    exact ⟨_, rfl, HO.out, hb1⟩
  · have HM : Hid (lenOct n.toNat = UInt8.ofNat (128 + (minF 7 n.toNat).length) :: minF 7 n.toNat) := by show lenOct n.toNat = _; unfold lenOct; rw [if_neg (by omega)]
    have HZ : Hid (bi (UInt8.ofNat (128 + (minF 7 n.toNat).length)) = 128 + ((minF 7 n.toNat).length : Int)) := by show bi _ = _; rw [bi_ofNat]; omega
    generalize UInt8.ofNat (128 + (minF 7 n.toNat).length) = z at *
    generalize minF 7 n.toNat = m at *
    have hm3 : (m.length : Int) ≤ 8 := by omega
    go_enter Try.func50, Try.ntmps50
    go_wp2_with (first | (go_at_call 64; (with_reducible refine (IH.out _).mono ?_); rintro e w1 ⟨v1, rfl, ho, hb1⟩; have HO := Lib.hid ho; clear ho; have hln := HO.out.isB.len ulB) | (at_builtin; refine wpList_appB _ rfl _ _ 30 rfl w1.heap.size 5 ulB infoB _ [z] rfl (by rw [← HZ.out]; exact OwB.one _ _ _ (Nat.le_refl _)) _ _ rfl (HO.out.isB.alloc _) ?k1 ?k2 ?_))
    case k1 => simp; omega
    case k2 => simp
    intro v2 w2 ho2 _ hb2
    have HO2 := Lib.hid ho2
    clear ho2
    go_wp2
    go_ret2
    rw [HM.out]
    exact ⟨_, rfl, HO2.out.more hb1.size, (hb1.alloc hb1.size _).trans (hb2.mono hb1.size)⟩

set_option maxRecDepth 100000 in
set_option maxHeartbeats 2000000 in
theorem pLength_bad (n : Int) (w : World) (h : n < 0 ∨ 2147483647 < n) : Calls Try.prog 50 #[.int .i64 n] w (RetB (.tuple #[.slice none 0 0, .int .i64 9]) w) := by
  rcases (show n < 0 ∨ (0 ≤ n ∧ 2147483647 < n) by omega) with h | ⟨h, h'⟩ <;>
  · go_enter Try.func50, Try.ntmps50
    go_wp2
    (refine bodyPost_retB (v := .tuple #[.slice none 0 0, .int .i64 9]) (by (simp only [results, Try.results50]; try go_simp)) rfl rfl ?_; ((repeat' (first | (with_reducible exact Below.refl _ _) | (with_reducible assumption) | (with_reducible refine Below.setCell ?_ ?_ _) | (with_reducible refine Below.alloc ?_ ?_ _) | (with_reducible refine Below.drew ?_) | (with_reducible refine below_drewN ?_ _) | (with_reducible refine Below.step (by with_reducible assumption) ?_ ?_))) <;> (first | omega | (simp; done) | (simp; omega))))


theorem isBs_new3 (w : World) (t : TypeId) {a b c : Value} {la lb lc : List UInt8} (ha : IsB w a la) (hb : IsB w b lb) (hc : IsB w c lc) :
    IsBs (w.alloc (.cells #[a, b, c] t)) (.slice (some ⟨w.heap.size, 0, none⟩) 3 3) [la, lb, lc] := by
  refine ⟨[a, b, c], ⟨some ⟨w.heap.size, 0, none⟩, 3, rfl, Nat.le_refl _, by decide, rfl, fun _ => ⟨w.heap.size, 0, rfl, by simp, fun j x hj => ?_⟩⟩, fun j hj => ?_⟩
  · rw [Nat.zero_add, World.cell?_alloc_new]
    simpa using hj
  · match j, hj with
    | 0, _ => exact ha.alloc _
    | 1, _ => exact hb.alloc _
    | 2, _ => exact hc.alloc _

theorem isBs_at3 {w : World} {t : TypeId} {g : Nat} {a b c : Value} {la lb lc : List UInt8} (hg : g = w.heap.size) (ha : IsB w a la) (hb : IsB w b lb) (hc : IsB w c lc) :
    IsBs (w.alloc (.cells #[a, b, c] t)) (.slice (some ⟨g, 0, none⟩) 3 3) [la, lb, lc] := by subst hg; exact isBs_new3 w t ha hb hc
theorem isB_slice {w : World} {v : Value} {l : List UInt8} (h : IsB w v l) : ∃ A c, v = .slice A l.length c := by
  obtain ⟨A, c, rfl, _⟩ := h; exact ⟨A, c, rfl⟩

/-- The identifier octet of a tag. -/
def idB (c : Int) (k : Bool) (n : Int) : UInt8 := UInt8.ofNat (c * 64 + n + if k then 32 else 0).toNat
theorem idB_bi (c : Int) (k : Bool) (n : Int) (h : 0 ≤ c) (h1 : c ≤ 3) (h2 : 0 ≤ n) (h3 : n < 31) : bi (idB c k n) = c * 64 + n + if k then 32 else 0 := by
  unfold idB; rw [bi_ofNat]; split <;> omega
/-- The element of a tag and its content. -/
def encO (c : Int) (k : Bool) (n : Int) (l : List UInt8) : List UInt8 := idB c k n :: (lenOct l.length ++ l)

set_option maxRecDepth 100000 in
set_option maxHeartbeats 2000000 in
theorem pEnc_bad (c n : Int) (k : Bool) (v : Value) (w : World) (h : c < 0 ∨ 3 < c ∨ n < 0 ∨ 31 ≤ n) :
    Calls Try.prog 37 #[.int .i64 c, .bool k, .int .i64 n, v] w (RetB (.tuple #[.slice none 0 0, .int .i64 9]) w) := by
  have HI := Lib.hid (ident_bad c n k · h)
  clear h
  go_enter Try.func37, Try.ntmps37
  go_wp2_with (first | (go_at_call 32; (with_reducible refine (HI.out _).mono ?_); rintro e w1 ⟨rfl, rfl⟩))
  (refine bodyPost_retB (v := .tuple #[.slice none 0 0, .int .i64 9]) (by (simp only [results, Try.results37]; try go_simp)) rfl rfl ?_; ((repeat' (first | (with_reducible exact Below.refl _ _) | (with_reducible assumption) | (with_reducible refine Below.setCell ?_ ?_ _) | (with_reducible refine Below.alloc ?_ ?_ _) | (with_reducible refine Below.drew ?_) | (with_reducible refine below_drewN ?_ _) | (with_reducible refine Below.step (by with_reducible assumption) ?_ ?_))) <;> (first | omega | (simp; done) | (simp; omega))))

set_option maxRecDepth 100000 in
set_option maxHeartbeats 2000000 in
theorem rEnc_bad (c n : Int) (k : Bool) (v : Value) (w : World) (h : c < 0 ∨ 3 < c ∨ n < 0 ∨ 31 ≤ n) :
    Calls Try.prog 39 #[.int .i64 c, .bool k, .int .i64 n, v] w (RetB (.tuple #[.slice none 0 0, .int .i64 9]) w) := by
  have HI := Lib.hid (rIdent_bad c n k · h)
  clear h
  go_enter Try.func39, Try.ntmps39
  go_wp2_with (first | (go_at_call 34; (with_reducible refine (HI.out _).mono ?_); rintro e w1 ⟨rfl, rfl⟩))
  (refine bodyPost_retB (v := .tuple #[.slice none 0 0, .int .i64 9]) (by (simp only [results, Try.results39]; try go_simp)) rfl rfl ?_; ((repeat' (first | (with_reducible exact Below.refl _ _) | (with_reducible assumption) | (with_reducible refine Below.setCell ?_ ?_ _) | (with_reducible refine Below.alloc ?_ ?_ _) | (with_reducible refine Below.drew ?_) | (with_reducible refine below_drewN ?_ _) | (with_reducible refine Below.step (by with_reducible assumption) ?_ ?_))) <;> (first | omega | (simp; done) | (simp; omega))))

set_option maxRecDepth 100000 in
set_option maxHeartbeats 2000000 in
theorem pEnc_good (c n : Int) (k : Bool) (v : Value) (l : List UInt8) (w : World) (hv : IsB w v l) (h : 0 ≤ c) (h1 : c ≤ 3) (h2 : 0 ≤ n) (h3 : n < 31) (hl : l.length ≤ 900000) :
    Calls Try.prog 37 #[.int .i64 c, .bool k, .int .i64 n, v] w (RetOK 5 (encO c k n l) w) := by
  obtain ⟨A, cp, rfl⟩ := isB_slice hv
  have HV := Lib.hid hv
  have hz := idB_bi c k n h h1 h2 h3
  have HI0 : Hid (∀ W, Calls Try.prog 32 #[.int .i64 c, .bool k, .int .i64 n] W fun e w' => e = .returned (.tuple #[.int .u8 (bi (idB c k n)), .int .i64 0]) ∧ W = w') := fun W => by
    rw [hz]; exact ident_good c n k W h h1 h2 h3
  have HL := Lib.hid (pLength l.length · (by omega) (by omega))
  obtain ⟨hm1, hm2⟩ := lenOct_len l.length
  rw [Int.toNat_natCast] at HL
  have HE : Hid (encO c k n l = idB c k n :: (lenOct l.length ++ l)) := rfl
  have hl' : (l.length : Int) ≤ 900000 := by omega
  clear hv hz h h1 h2 h3
  generalize idB c k n = z at *
  generalize lenOct l.length = m at *
  generalize encO c k n l = E at *
  have hfl : [[z], m, l].flatten.length ≤ 1000000 := by simp; omega
  have HF := Lib.hid hfl
  clear hfl
  go_enter Try.func37, Try.ntmps37
  go_wp2_with (first | (go_at_call 32; (with_reducible refine (HI0.out _).mono ?_); rintro e w1 ⟨rfl, rfl⟩) | (go_at_call 50; (with_reducible refine (HL.out _).mono ?_); rintro e w1 ⟨v1, rfl, ho, hb1⟩; have HO := Lib.hid ho; clear ho; obtain ⟨A1, cp1, rfl⟩ := isB_slice HO.out.isB) | (go_at_call 38; (with_reducible refine (concat_any _ [[z], m, l] _ (isBs_at3 (by simp) (isB_new _ _ z _ rfl) (HO.out.isB.alloc _) ((HV.out.below hb1).alloc _)) HF.out).mono ?_); rintro e w2 ⟨v2, rfl, ho2, hb2⟩; have HO2 := Lib.hid ho2; clear ho2))
  go_ret2
  rw [HE.out]
  refine ⟨_, rfl, ?_, ?_⟩
  · have := HO2.out
    simp only [List.flatten_cons, List.flatten_nil, List.append_nil] at this
    exact this.more (by have := hb1.size; simp; omega)
  · exact (((hb1.alloc hb1.size _).alloc (by have := hb1.size; simp; omega) _)).trans (hb2.mono (by have := hb1.size; simp; omega))

set_option maxRecDepth 100000 in
set_option maxHeartbeats 2000000 in
theorem rEnc_good (c n : Int) (k : Bool) (v : Value) (l : List UInt8) (w : World) (hv : IsB w v l) (h : 0 ≤ c) (h1 : c ≤ 3) (h2 : 0 ≤ n) (h3 : n < 31) (hl : l.length ≤ 900000) :
    Calls Try.prog 39 #[.int .i64 c, .bool k, .int .i64 n, v] w (RetOK 5 (encO c k n l) w) := by
  have hln := hv.len ulB
  have HV := Lib.hid hv
  have hz := idB_bi c k n h h1 h2 h3
  have HI0 : Hid (∀ W, Calls Try.prog 34 #[.int .i64 c, .bool k, .int .i64 n] W fun e w' => e = .returned (.tuple #[.int .u8 (bi (idB c k n)), .int .i64 0]) ∧ W = w') := fun W => by
    rw [hz]; exact rIdent_good c n k W h h1 h2 h3
  have HL := Lib.hid (rLength l.length · (by omega) (by omega))
  obtain ⟨hm1, hm2⟩ := lenOct_len l.length
  rw [Int.toNat_natCast] at HL
  have HE : Hid (encO c k n l = idB c k n :: (lenOct l.length ++ l)) := rfl
  have hl' : (l.length : Int) ≤ 900000 := by omega
  clear hv hz h h1 h2 h3
  generalize idB c k n = z at *
  generalize lenOct l.length = m at *
  generalize encO c k n l = E at *
  go_enter Try.func39, Try.ntmps39
  go_wp2_with (first | (go_at_call 34; (with_reducible refine (HI0.out _).mono ?_); rintro e w1 ⟨rfl, rfl⟩) | (go_at_call 52; (with_reducible refine (HL.out _).mono ?_); rintro e w1 ⟨v1, rfl, ho, hb1⟩; have HO := Lib.hid ho; clear ho) | (at_builtin; refine wpList_appB _ rfl _ _ 30 rfl w.heap.size 5 ulB infoB _ [z] rfl (OwB.one _ _ _ hb1.size) _ m rfl (HO.out.isB.alloc _) ?k1 ?k2 ?_))
  case k1 => simp; omega
  case k2 => have := hb1.size; simp; omega
  intro v2 w2 ho2 _ hb2
  have HO2 := Lib.hid ho2
  have hb3 : Below w.heap.size w w2 := (hb1.alloc hb1.size _).trans hb2
  clear ho2 hb2
  go_wp2_with (at_builtin; refine wpList_appB _ rfl _ _ 30 rfl w.heap.size 5 ulB infoB _ _ rfl HO2.out _ l rfl (HV.out.below hb3) ?k1 ?k2 ?_)
  case k1 => simp; omega
  case k2 => exact hb3.size
  intro v3 w3 ho3 _ hb4
  have HO3 := Lib.hid ho3
  clear ho3
  go_wp2
  go_ret2
  rw [HE.out]
  exact ⟨_, rfl, by simpa using HO3.out, hb3.trans hb4⟩
end Go.Proofs.Ytecbphbnacbepaa
