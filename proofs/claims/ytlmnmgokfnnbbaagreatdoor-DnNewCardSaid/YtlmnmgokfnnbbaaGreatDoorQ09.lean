/- The parts Put, Dec, RefQ, RefR of one proof, one behind the other. -/
import Derived.Test.YtlmnmgokfnnbbaaGreatDoorQ08
import Derived.Test.YtlmnmgokfnnbbaaGreatDoorQ05
import Derived.Lib.EndianBits
import Derived.Deep.RegionHeld3
import Derived.Deep.QuietTactic
import Derived.BigQuiet

/- Walks over oid.Encode and its closure. -/
section
set_option linter.unusedSimpArgs false
set_option linter.unusedVariables false
namespace Go.Proofs.YtlmnmgokfnnbbaaGreatDoor
open Go.RowKit Go.Cr Go.Sort Go.Shelf
theorem u32_and_127 (n : Nat) (h : n ≤ 4294967295) : bits .and .u32 (n : Int) 127 = ((n % 128 : Nat) : Int) := by
  have := bits_mask .u32 32 (by decide) wraps_u32 7 (by decide) (n : Int) (by omega) (by omega)
  rw [show (2 : Int) ^ 7 - 1 = 127 by decide] at this
  rw [this]
  omega
theorem u32_or_128 (y : Nat) (h : y < 128) : bits .or .u32 (y : Int) 128 = ((y + 128 : Nat) : Int) := by
  have key : ∀ a : Fin 128, bits .or .u32 (a.val : Int) 128 = ((a.val + 128 : Nat) : Int) := by decide +kernel
  exact key ⟨y, h⟩

def PuP (R : List UInt8) (m : Nat) (l : List UInt8) : Prop := l.length ≤ 5 ∧ 0 < l.length ∧ (m = 0 → R = l.reverse) ∧ (m ≠ 0 → ∃ f, f + l.length = 4 ∧ m < 128 ^ (f + 1) ∧ R = b128 f m false ++ l.reverse)
theorem PuP.start (n : Nat) (h : n ≤ 4294967295) : PuP (subL n) (n / 128) [UInt8.ofNat (n % 128)] := by
  refine ⟨by simp, by simp, fun h0 => ?_, fun h0 => ⟨3, rfl, by omega, ?_⟩⟩
  · rw [subL, show b128 4 n true = if n < 128 then [UInt8.ofNat n] else b128 3 (n / 128) false ++ [UInt8.ofNat (n % 128)] from rfl, if_pos (by omega), Nat.mod_eq_of_lt (by omega)]
    rfl
  · rw [subL, show b128 4 n true = if n < 128 then [UInt8.ofNat n] else b128 3 (n / 128) false ++ [UInt8.ofNat (n % 128)] from rfl, if_neg (by omega)]
    rfl
theorem PuP.step {R : List UInt8} {m : Nat} {l : List UInt8} (h : PuP R m l) (hm : m ≠ 0) : PuP R (m / 128) (l ++ [UInt8.ofNat (m % 128 + 128)]) := by
  obtain ⟨h1, h2, _, h4⟩ := h
  obtain ⟨f, hf, hlt, he⟩ := h4 hm
  refine ⟨by simp; omega, by simp, fun h0 => ?_, fun h0 => ?_⟩
  · rw [he, List.reverse_append]
    have : b128 f m false = [UInt8.ofNat (m % 128 + 128)] := by
      cases f with
      | zero => rfl
      | succ f => rw [b128, if_pos (by omega), Nat.mod_eq_of_lt (by omega)]; rfl
    rw [this]; rfl
  · cases f with
    | zero => simp at hlt; omega
    | succ f =>
      refine ⟨f, by simp; omega, by rw [Nat.pow_succ] at hlt; omega, ?_⟩
      rw [he, b128, if_neg (by omega), List.reverse_append, List.append_assoc]
      rfl

def PuRel (R : List UInt8) (w : World) (nn out : Value) (wr : World) : Prop :=
  ∃ (m : Nat) (l : List UInt8), nn = .int .u32 m ∧ m ≤ 4294967295 ∧ OwB wr w.heap.size 5 out l ∧ Below w.heap.size w wr ∧ PuP R m l

def RetPut (g : Nat) (l : List UInt8) (w : World) (e : Ending) (w' : World) : Prop :=
  e = .returned (.tuple #[]) ∧ ∃ v', Blk w' g 33 #[v'] ∧ OwB w' (g + 1) 5 v' l ∧ Below g w w'

set_option maxRecDepth 100000 in
set_option maxHeartbeats 2000000 in
theorem put_any (n g : Nat) (v : Value) (l0 : List UInt8) (w : World) (hn : n ≤ 4294967295) (hK : Blk w g 33 #[v]) (hO : OwB w (g + 1) 5 v l0) (hl : l0.length ≤ 1000000) :
    Calls Tryz.prog 120 #[.int .u32 n, .pointer (some ⟨g, 0, none⟩)] w (RetPut g (l0 ++ subL n) w) := by
  have hs := PuP.start n hn
  have hHZ : bi (UInt8.ofNat (n % 128)) = ((n % 128 : Nat) : Int) := by rw [bi_ofNat]; omega
  have hA := u32_and_127 n hn
  have hy : ((n % 128 : Nat) : Int) ≤ 127 := by omega
  obtain ⟨R, hR⟩ : ∃ R, subL n = R := ⟨_, rfl⟩
  rw [hR] at hs ⊢
  have HS := Lib.hid hs
  have HK := Lib.hid hK
  have HO0 := Lib.hid hO
  have HN := Lib.hid hn
  have HHZ := Lib.hid hHZ
  have hgl := hK.lt
  clear hs hR hK hO hn hHZ
  generalize UInt8.ofNat (n % 128) = z0 at *
  generalize n % 128 = y0 at *
  have hnle : (n : Int) ≤ 4294967295 := by have := HN.out; omega
  go_enter Tryz.func120, Tryz.ntmps120
  go_wp2
  go_loopw [0, 3] (fun nn out wr => PuRel R w nn out wr) (fun nn _ _ => (intOf nn).toNat)
  case atStart =>
    refine ⟨n / 128, [z0], by go_num, by have := HN.out; omega, ?_, by ((repeat' (first | (with_reducible exact Below.refl _ _) | (with_reducible assumption) | (with_reducible refine Below.setCell ?_ ?_ _) | (with_reducible refine Below.alloc ?_ ?_ _) | (with_reducible refine Below.drew ?_) | (with_reducible refine below_drewN ?_ _) | (with_reducible refine Below.step (by with_reducible assumption) ?_ ?_))) <;> (first | omega | (simp; done) | (simp; omega))), HS.out⟩
    have := OwB.one w 5 z0 (Nat.le_refl _)
    rwa [HHZ.out] at this
  case round =>
    obtain ⟨m, l, rfl, hm, ho, hbel, hp⟩ := hrel
    have HO := Lib.hid ho
    have HP := Lib.hid hp
    have HM := Lib.hid hm
    clear ho hp hm hA
    by_cases hm0 : 0 < m
    · have hZ1 : bi (UInt8.ofNat (m % 128 + 128)) = ((m % 128 + 128 : Nat) : Int) := by rw [bi_ofNat]; omega
      have HP1 := Lib.hid (HP.out.step (by omega))
      have hA1 := u32_and_127 m HM.out
      have hO1 := u32_or_128 (m % 128) (by omega)
      have hy1 : ((m % 128 + 128 : Nat) : Int) ≤ 255 := by omega
      have HZ1 := Lib.hid hZ1
      clear hZ1
      generalize UInt8.ofNat (m % 128 + 128) = z at *
      generalize m % 128 + 128 = y2 at *
      generalize m % 128 = y1 at *
      go_wp2_with (at_builtin; refine wpList_appB _ rfl _ _ 33 rfl w.heap.size 5 ulB infoB _ _ rfl (HO.out.alloc _) _ _ rfl (isB_new _ _ _ _ HZ1.out) ?k1 ?k2 ?_)
      case k1 => have := HP.out.1; simp; omega
      case k2 => have := hbel.size; simp; omega
      intro v2 w2 ho2 _ hb2
      have HO2 := Lib.hid ho2
      have hbel2 : Below w.heap.size w w2 := (hbel.alloc hbel.size _).trans hb2
      clear ho2 hb2
      go_wp2
      go_roundw
      case rel => exact ⟨m / 128, _, by go_num, by have := HM.out; omega, HO2.out, hbel2, HP1.out⟩
      case measure => simp [intOf]; omega
    · have hl1 := HP.out.1
      have hl2 := HP.out.2.1
      have HF := Lib.hid (HP.out.2.2.1 (by omega))
      have HR := Lib.hid (fun W (h : OwB W w.heap.size 5 u3 l) (hb : w.heap.size ≤ W.heap.size) => reverse_any u3 w.heap.size l W h (by omega) hl2 hb)
      have hbs := hbel.size
      have hm00 : (m : Int) = 0 := by omega
      go_wp2_with (first | (go_at_call 121; (with_reducible refine (HR.out _ HO.out hbs).mono ?_); rintro e w2 ⟨rfl, ho2, hb2⟩; have HO2 := Lib.hid ho2; clear ho2; have hbw : Below w.heap.size w w2 := hbel.trans hb2; have hK2 := HK.out.call hbw; have hq2 := hK2.q; have hf2 := hK2.fz; have hl3 := hK2.lt; have HK2 := Lib.hid hK2; clear hK2; have HOB := Lib.hid (HO0.out.below hbw)) | (at_builtin; refine wpList_appB _ rfl _ _ 33 rfl (g + 1) 5 ulB infoB _ _ rfl HOB.out _ _ rfl HO2.out.isB ?k1 ?k2 ?_))
      case k1 => simp; omega
      case k2 => omega
      intro v4 w4 ho4 _ hb4
      obtain ⟨A4, c4, rfl⟩ := isB_slice ho4.isB
      have HO4 := Lib.hid ho4
      have hK4 : Blk w4 g 33 #[v] := HK2.out.below hb4 (Nat.lt_succ_self g)
      have hq4 := hK4.q
      have hf4 := hK4.fz
      have hl4 := hK4.lt
      have HK4 := Lib.hid hK4
      clear ho4 hK4 hq2 hf2
      go_wp2
      refine bodyPost_ret (v := .tuple #[]) (by simp only [results, Tryz.results120]; go_simp) rfl ?_
      refine ⟨rfl, _, HK4.out.set_ 0 _, ?_, ?_⟩
      · rw [HF.out]
        have hll : (l0 ++ l.reverse).length = l0.length + l.length := by simp
        have h := HO4.out
        rw [hll] at h
        exact ownsRow_setCell_below (a := ⟨g, 0, none⟩) h (Nat.lt_succ_self g) _
      · exact ((hbw.mono (by omega)).trans (hb4.mono (Nat.le_succ g))).setCell (Nat.le_refl g) _

def RetOid (r : Option (List UInt8)) (w : World) (e : Ending) (w' : World) : Prop :=
  Below w.heap.size w w' ∧ ((r = none ∧ e = .returned (.tuple #[.slice none 0 0, .int .i64 8])) ∨ ∃ c v, r = some c ∧ e = .returned (.tuple #[v, .int .i64 0]) ∧ OwB w' w.heap.size 5 v c)
def EnRel (L : List UInt8) (ms : List Nat) (g : Nat) (w : World) (ix : Value) (wr : World) : Prop :=
  ∃ (k : Nat) (v : Value), ix = .int .i64 k ∧ k ≤ ms.length ∧ Blk wr g 33 #[v] ∧ OwB wr (g + 1) 5 v (L ++ (ms.take k).flatMap subL) ∧ Below g w wr

def RetArcsY (ns : List Nat) (w : World) (e : Ending) (w' : World) : Prop := ∃ v, e = .returned (.tuple #[v, .int .i64 0]) ∧ IsU .u32 w' v ns ∧ Below w.heap.size w w'
theorem RetArcs.yes {ns : List Nat} {w : World} {e : Ending} {w' : World} (h : RetArcs (some ns) w e w') : RetArcsY ns w e w' := by
  obtain ⟨hb, ⟨h, _⟩ | ⟨ns', v, h, rfl, hu⟩⟩ := h
  · cases h
  · cases h; exact ⟨v, rfl, hu, hb⟩
theorem RetArcs.no {w : World} {e : Ending} {w' : World} (h : RetArcs none w e w') : RetB (.tuple #[.slice none 0 0, .int .i64 11]) w e w' := by
  obtain ⟨hb, ⟨h, rfl⟩ | ⟨ns', v, h, rfl, hu⟩⟩ := h
  · exact ⟨rfl, hb⟩
  · cases h
theorem flat_take_len (ms : List Nat) (k : Nat) : ((ms.take k).flatMap subL).length ≤ 5 * ms.length := by
  have h : ∀ l : List Nat, (l.flatMap subL).length ≤ 5 * l.length := by
    intro l
    induction l with
    | nil => simp
    | cons x t ih => have := b128_len 4 x true; simp only [List.flatMap_cons, List.length_append, List.length_cons, subL] at ih ⊢; omega
  have := h (ms.take k)
  have h2 : (ms.take k).length ≤ ms.length := by simp; omega
  omega

set_option maxRecDepth 100000 in
set_option maxHeartbeats 4000000 in
theorem enc_any (s : ByteArray) (w : World) (hG : Glo w) (hs : s.size ≤ 100000) :
    Calls Tryz.prog 84 #[.string s] w (RetOid (oidE s.data.toList) w) := by
  have HA := Lib.hid (arcs_any s w hG (by omega))
  have hle : ∀ ns, arcsL s.data.toList = some ns → ns.length ≤ 100001 ∧ rightL ns = true ∧ (∀ n ∈ ns, n ≤ 4294967295) := by
    intro ns h
    have h1 := arcsL_len h
    have h2 := arcsL_some h
    have h3 : s.data.toList.length = s.size := rfl
    exact ⟨by omega, h2.2.1, h2.2.2⟩
  have HE : Hid (oidE s.data.toList = (arcsL s.data.toList).map encL) := rfl
  generalize oidE s.data.toList = r at *
  generalize arcsL s.data.toList = q at *
  clear hG hs
  cases q with
  | none =>
    have HR : Hid (r = none) := HE.out
    have HA2 := Lib.hid (HA.out.mono fun _ _ h => h.no)
    clear hle HE HA
    go_enter Tryz.func84, Tryz.ntmps84
    go_wp2_with (first | ((go_at_call 119); ((with_reducible refine (HA2.out).mono ?_)); rintro e w1 ⟨rfl, hb⟩))
    go_ret2
    exact ⟨hb, .inl ⟨HR.out, rfl⟩⟩
  | some ns0 =>
    obtain ⟨hl, hr, hns⟩ := hle ns0 rfl
    have HR : Hid (r = some (encL ns0)) := HE.out
    obtain ⟨x, y, t, rfl⟩ : ∃ x y t, ns0 = x :: y :: t := by
      match ns0, hr with
      | x :: y :: t, _ => exact ⟨x, y, t, rfl⟩
    have hsub := (subs_root hr hns).1 (40 * x + y) (by simp [subsL])
    have ht : ∀ n ∈ t, n ≤ 4294967295 := fun n hn => hns n (by simp [hn])
    have hx : x ≤ 2 := by simp only [rightL, Bool.and_eq_true, decide_eq_true_eq] at hr; exact hr.1
    have henc : encL (x :: y :: t) = subL (40 * x + y) ++ t.flatMap subL := by simp [encL, subsL]
    rw [henc] at HR
    have htl : t.length ≤ 100000 := by simp at hl; omega
    have HT := Lib.hid ht
    have hxI : (x : Int) ≤ 2 := by omega
    have hsI : 40 * (x : Int) + y ≤ 4294967295 := by omega
    have HA2 := Lib.hid (HA.out.mono fun _ _ h => h.yes)
    clear hle HE henc hns hr ht hl HA
    go_enter Tryz.func84, Tryz.ntmps84
    go_wp2_with (first | ((go_at_call 119); ((with_reducible refine (HA2.out).mono ?_)); rintro e w1 ⟨v, rfl, hu, hb⟩))
    have hlen := hu.len ulU32s
    obtain ⟨b0, o0, hi0, hl0, hc0⟩ := hu.at_ (P := Tryz.prog) ulU32s szU32 .i64 (i := 0) (by omega) (by simp; omega)
    obtain ⟨b1, o1, hi1, hl1, hc1⟩ := hu.at_ (P := Tryz.prog) ulU32s szU32 .i64 (i := 1) (by omega) (by simp; omega)
    have hc0' : w1.cell? ⟨b0, o0, none⟩ = some (.int .u32 (x : Int)) := hc0
    have hc1' : w1.cell? ⟨b1, o1, none⟩ = some (.int .u32 (y : Int)) := hc1
    have hwa : IntKind.u32.wrap (40 * (x : Int)) = 40 * (x : Int) := by rw [IntKind.wrap_u32]; omega
    have hwb : IntKind.u32.wrap (40 * (x : Int) + y) = 40 * (x : Int) + y := by rw [IntKind.wrap_u32]; omega
    have HPut := Lib.hid (fun W v l hk ho hl => put_any (40 * x + y) w1.heap.size v l W hsub hk ho hl)
    rw [show ((40 * x + y : Nat) : Int) = 40 * (x : Int) + y by omega] at HPut
    have HU := Lib.hid hu
    clear hu hc0 hc1
    go_region_held3 (fun W' => W'.cell? ⟨b0, o0, none⟩ = some (.int .u32 (x : Int)) ∧ W'.cell? ⟨b1, o1, none⟩ = some (.int .u32 (y : Int)))
      (first | go_keep | (exact ⟨(hb2.cell hl0).trans (by simp [*]), (hb2.cell hl1).trans (by simp [*])⟩))
      (((go_at_call 120); (with_reducible refine (HPut.out _ _ [] (Blk.new w1 _ _).drew (OwB.nil_ _ _ _) (by simp)).mono ?_); rintro e w2 ⟨rfl, v2, hk2, ho2, hb2⟩))
    have hb1 : Below w1.heap.size w1 w2 := (((Below.refl _ _).alloc (Nat.le_refl _) _).drew).trans hb2
    have hd := IsR.cutLo HU.out ulU32s szU32 .i64 (lo := 2) (by omega) (by simp; omega)
    obtain ⟨vt, hct, hut⟩ := hd
    have hut' : IsU .u32 w1 vt t := hut
    have hlt := hut'.len ulU32s
    have HUT := Lib.hid hut'
    have HK2 := Lib.hid hk2
    have HO2 := Lib.hid ho2
    have hp2 : ∀ (n : Nat) (v : Value) (l : List UInt8) (W : World), n ≤ 4294967295 → Blk W w1.heap.size 33 #[v] → OwB W (w1.heap.size + 1) 5 v l → l.length ≤ 1000000 → Calls Tryz.prog 120 #[.int .u32 n, .pointer (some ⟨w1.heap.size, 0, none⟩)] W (RetPut w1.heap.size (l ++ subL n) W) := fun n v l W => put_any n w1.heap.size v l W
    have HP2 := Lib.hid hp2
    have hsl : (subL (40 * x + y)).length ≤ 5 := b128_len 4 _ true
    have HB1 := Lib.hid hb1
    have hgw : w.heap.size ≤ w1.heap.size := hb.size
    have hfl := flat_take_len t
    have HFL := Lib.hid hfl
    clear hut hut' hk2 ho2 hb1 hb2 hp2 hi0 hi1 hc0' hc1' hwa hwb hl0 hl1 HPut hsub hfl
    generalize subL (40 * x + y) = L at *
    go_wp2
    go_loopw [31] (fun ix wr => EnRel L t w1.heap.size w1 ix wr) (fun ix _ => t.length - (intOf ix).toNat)
    case atStart => exact ⟨0, v2, rfl, Nat.zero_le _, HK2.out, by simpa using HO2.out, HB1.out⟩
    case round =>
      obtain ⟨k, vk, rfl, hk, hK, hO, hbel⟩ := hrel
      by_cases hlt2 : k < t.length
      · obtain ⟨b, o, hi, hbl, hc⟩ := HUT.out.at_ (P := Tryz.prog) ulU32s szU32 .i64 (i := k) (by omega) (by omega)
        simp only [Int.toNat_natCast] at hc
        have hgd : t.getD k 0 = t[k] := by simp [hlt2]
        rw [hgd] at hc
        have hc' := (hbel.cell (p := ⟨b, o, none⟩) hbl).trans hc
        have hnk := HT.out t[k] (List.getElem_mem hlt2)
        have hff := HFL.out k
        have hpp := HP2.out t[k] vk (L ++ (t.take k).flatMap subL) wr hnk hK hO (by rw [List.length_append]; omega)
        have hfm : (L ++ (t.take k).flatMap subL) ++ subL t[k] = L ++ (t.take (k + 1)).flatMap subL := by
          rw [List.take_succ_eq_append_getElem hlt2, List.flatMap_append, List.append_assoc]; simp
        rw [hfm] at hpp
        have HPP := Lib.hid hpp
        have HBR := Lib.hid hbel
        have hltI : (k : Int) < t.length := by omega
        clear hgd hpp hfm hff hK hO hc hbel hnk
        generalize t[k] = z at *
        go_wp2_with (first | ((go_at_call 120); (with_reducible refine (HPP.out).mono ?_); rintro e w4 ⟨rfl, v4, hk4, ho4, hb4⟩; have HK4 := Lib.hid hk4; have HO4 := Lib.hid ho4; clear hk4 ho4))
        go_roundw
        case rel => exact ⟨k + 1, v4, by go_num, by omega, HK4.out, HO4.out, HBR.out.trans hb4⟩
        case measure => simp [intOf]; omega
      · have hge : (t.length : Int) ≤ k := by omega
        have hq := hK.q
        have hf := hK.fz
        have hgl := hK.lt
        have ho' : OwB wr (w1.heap.size + 1) 5 vk (L ++ t.flatMap subL) := by
          have := hO
          rwa [show k = t.length by omega, List.take_length] at this
        have HO5 := Lib.hid ho'
        have HBR := Lib.hid hbel
        clear hlt2 hK hO ho' hbel
        go_wp2
        go_ret2
        exact ⟨hb.trans (HBR.out.mono hgw), .inr ⟨_, vk, HR.out, rfl, HO5.out.more (by omega)⟩⟩
end Go.Proofs.YtlmnmgokfnnbbaaGreatDoor
end

/- Walk over oid.Decode. -/
section
set_option linter.unusedSimpArgs false
set_option linter.unusedVariables false
namespace Go.Proofs.YtlmnmgokfnnbbaaGreatDoor
open Go.RowKit Go.Cr Go.Sort Go.Shelf
theorem ulU64s : Tryz.prog.underlying 147 = some (.slice 148) := by kernel_rfl
theorem szU64 (W : World) : (sizeOf 148).run Tryz.prog W = .ok 1 W := by kernel_rfl
theorem infoU64 : (Tryz.prog.info? 148).map (fun i => (i.zero, i.size, i.bytes)) = some (some (.int .u64 0), 1, 8) := by kernel_rfl

theorem u8_and_127 (n : Int) (h0 : 0 ≤ n) (h1 : n < 256) : bits .and .u8 n 127 = n % 128 := bits_mask .u8 8 (by decide) wraps_u8 7 (by decide) _ h0 h1
theorem u8_and_128 (n : Int) (h0 : 0 ≤ n) (h1 : n < 256) : bits .and .u8 n 128 = if 128 ≤ n then 128 else 0 := by
  obtain ⟨a, rfl⟩ := Int.eq_ofNat_of_zero_le h0
  have ha : a < 256 := by omega
  have key : ∀ a : Fin 256, bits .and .u8 (a.val : Int) 128 = if 128 ≤ (a.val : Int) then 128 else 0 := by decide +kernel
  exact key ⟨a, ha⟩
theorem u64_or_128 (n : Nat) (y : Nat) (h : n ≤ 4294967295) (hy : y < 128) : bits .or .u64 ((n : Int) * 128) (y : Int) = (n : Int) * 128 + y := by
  have h1 : ((n : Int) * 128) = ((n * 128 : Nat) : Int) := by omega
  rw [h1]
  show IntKind.u64.wrap ((BitVec.ofInt 64 ((n * 128 : Nat) : Int) ||| BitVec.ofInt 64 (y : Int)).toNat : Int) = _
  rw [BitVec.toNat_or, ofInt_i64 _ (by omega), ofInt_i64 _ (by omega), or_add n y 7 (by omega), IntKind.wrap_u64]
  omega

def decV : Option (List UInt8) → Value
  | some s => .tuple #[.string (bStr s), .int .i64 0]
  | none => .tuple #[.string ⟨#[]⟩, .int .i64 6]

def DRel (c : List UInt8) (r : Option (List Nat)) (w : World) (out bg nv ix : Value) (wr : World) : Prop :=
  ∃ (k : Nat) (b : Bool) (n : Nat) (acc : List Nat), ix = .int .i64 k ∧ bg = .bool b ∧ nv = .int .u64 n ∧ n ≤ 4294967295 ∧ k ≤ c.length ∧ acc.length ≤ k ∧ (∀ a ∈ acc, a ≤ 4294967295) ∧ decN (c.drop k) b n acc = r ∧
    wr.ownsRow w.heap.size 148 1 out acc.length (uCells .u64 acc) ∧ Below w.heap.size w wr
def D2Rel (a b : Nat) (t : List Nat) (w1 : World) (out ix : Value) (wr : World) : Prop :=
  ∃ k : Nat, ix = .int .i64 k ∧ k ≤ t.length ∧ wr.ownsRow w1.heap.size 143 1 out (k + 2) (uCells .u32 (a :: b :: t.take k)) ∧ Below w1.heap.size w1 wr

set_option maxRecDepth 100000 in
set_option maxHeartbeats 8000000 in
theorem dec_any (v : Value) (c : List UInt8) (w : World) (hG : Glo w) (hv : IsB w v c) (hl : c.length ≤ 90000) :
    Calls Tryz.prog 90 #[v] w (RetB (decV (oidD c)) w) := by
  have hlen := hv.len ulB
  have HV := Lib.hid hv
  have HG := Lib.hid hG
  have HD : Hid (oidD c = match decN c false 0 [] with | none => none | some [] => none | some (n :: t) => some (textL (rootL (n :: t)))) := rfl
  obtain ⟨r, hr⟩ : ∃ r, decN c false 0 [] = r := ⟨_, rfl⟩
  rw [hr] at HD
  have HR := Lib.hid hr
  have hll : (c.length : Int) ≤ 90000 := by omega
  clear hG hv hr
  generalize oidD c = R at *
  go_enter Tryz.func90, Tryz.ntmps90
  go_wp2_with fail
  go_loopw [4, 5, 6, 17] (fun out bg nv ix wr => DRel c r w out bg nv ix wr) (fun _ _ _ ix _ => c.length - (intOf ix).toNat)
  case atStart => exact ⟨0, false, 0, [], rfl, rfl, rfl, by omega, Nat.zero_le _, Nat.zero_le _, by simp, by rw [List.drop_zero]; exact HR.out, World.ownsRow_nil _ _ _ _, Below.refl _ _⟩
  case round =>
    obtain ⟨k, b, n, acc, rfl, rfl, rfl, hn, hk, hak, hacc, hdec, hown, hbel⟩ := hrel
    have HO := Lib.hid hown
    have HBR := Lib.hid hbel
    have HACC := Lib.hid hacc
    clear hown hacc
    by_cases hlt : k < c.length
    · obtain ⟨b0, o0, hi, hbl, hc⟩ := HV.out.at_ (P := Tryz.prog) ulB szB .i64 (i := k) (by omega) (by omega)
      simp only [Int.toNat_natCast] at hc
      have hc' : wr.cell? ⟨b0, o0, none⟩ = some (.int .u8 (bat c k)) := (hbel.cell hbl).trans hc
      have hdrop : c.drop k = c[k] :: c.drop (k + 1) := List.drop_eq_getElem_cons hlt
      have hxb : bat c k = (c[k].toNat : Int) := bat_eq c k hlt
      have hb0 := bat_pos c k
      have hb1 := bat_lt c k
      rw [hdrop] at hdec
      simp only [decN] at hdec
      have HDC := Lib.hid hdec
      have hltI : (k : Int) < c.length := by omega
      have hnI : (n : Int) ≤ 4294967295 := by omega
      have hm : (c[k].toNat % 128 : Nat) = (bat c k % 128).toNat := by omega
      clear hc hbel
      by_cases hbad : b = false ∧ bat c k = 128
      · obtain ⟨rfl, hx⟩ := hbad
        have hr : r = none := by rw [← HDC.out, if_pos ⟨rfl, by omega⟩]
        have hR : R = none := by rw [HD.out, hr]
        have HR' := Lib.hid hR
        have hx1 : (bat c k == 128) = true := by rw [hx]; rfl
        clear hdec HDC hdrop hxb hr hR hm hx
        generalize bat c k = x at *
        go_wp2_with fail
        rw [HR'.out]
        go_ret2
        exact ⟨rfl, HBR.out⟩
      · have h1 : (bits .and .u8 (bat c k) 127) = bat c k % 128 := u8_and_127 _ hb0 hb1
        have h2 := u8_and_128 (bat c k) hb0 hb1
        obtain ⟨y, hy⟩ : ∃ y : Nat, bat c k % 128 = y := ⟨(bat c k % 128).toNat, by omega⟩
        have hy127 : (y : Int) ≤ 127 := by omega
        have hym : c[k].toNat % 128 = y := by omega
        rw [hy] at h1
        have h3 := u64_or_128 n y hn (by omega)
        have h4 : IntKind.u64.wrap ((n : Int) * 128) = (n : Int) * 128 := by rw [IntKind.wrap_u64]; omega
        have hnb : ¬ (b = false ∧ c[k].toNat = 128) := fun h => hbad ⟨h.1, by omega⟩
        have hd1 : (if 4294967295 < n * 128 + y then none else if 128 ≤ c[k].toNat then decN (c.drop (k + 1)) true (n * 128 + y) acc else decN (c.drop (k + 1)) false 0 (acc ++ [n * 128 + y])) = r := by
          rw [← HDC.out, if_neg hnb, hym]
        have HD1 := Lib.hid hd1
        obtain ⟨m, hmm⟩ : ∃ m : Nat, n * 128 + y = m := ⟨_, rfl⟩
        have hmI : (n : Int) * 128 + y = m := by omega
        rw [hmI] at h3
        have hbk : b = true ∨ (b = false ∧ (bat c k == 128) = false) := by
          cases b with
          | true => exact .inl rfl
          | false => right; exact ⟨rfl, beq_eq_false_iff_ne.2 (fun h => hbad ⟨rfl, h⟩)⟩
        by_cases hbig : 4294967295 < m
        · have hr : r = none := by rw [← HD1.out, if_pos (by omega)]
          have hR : R = none := by rw [HD.out, hr]
          have HR' := Lib.hid hR
          have hbigI : (4294967295 : Int) < m := by omega
          clear hdec HDC HD1 hd1 hdrop hxb hr hR hm hnb hym hbad hmm hbig hy
          rcases (show bat c k < 128 ∨ 128 ≤ bat c k by omega) with hh | hh
          · have h2' : bits .and .u8 (bat c k) 128 = 0 := by rw [h2, if_neg (by omega)]
            clear h2
            generalize bat c k = x at *
            rcases hbk with rfl | ⟨rfl, hbk⟩ <;>
            · go_wp2_with fail
              rw [HR'.out]
              go_ret2
              exact ⟨rfl, HBR.out⟩
          · have h2' : bits .and .u8 (bat c k) 128 = 128 := by rw [h2, if_pos hh]
            clear h2
            generalize bat c k = x at *
            rcases hbk with rfl | ⟨rfl, hbk⟩ <;>
            · go_wp2_with fail
              rw [HR'.out]
              go_ret2
              exact ⟨rfl, HBR.out⟩
        · have hm2 : m ≤ 4294967295 := by omega
          have hmI2 : (m : Int) ≤ 4294967295 := by omega
          rcases (show bat c k < 128 ∨ 128 ≤ bat c k by omega) with hh | hh
          · have h2' : bits .and .u8 (bat c k) 128 = 0 := by rw [h2, if_neg (by omega)]
            have hnx : decN (c.drop (k + 1)) false 0 (acc ++ [m]) = r := by rw [← HD1.out, hmm, if_neg (by omega), if_neg (by omega)]
            have HNX := Lib.hid hnx
            have ha2 : ∀ a ∈ acc ++ [m], a ≤ 4294967295 := by
              intro a ha
              simp only [List.mem_append, List.mem_singleton] at ha
              rcases ha with ha | rfl
              · exact HACC.out a ha
              · exact hm2
            have HA2 := Lib.hid ha2
            obtain ⟨i0, hi0, hz0, hz1, hz2⟩ := info_parts infoU64
            clear h2 hdec HDC HD1 hd1 hdrop hxb hm hnb hym hbad hmm hbig hy hnx ha2
            generalize bat c k = x at *
            rcases hbk with rfl | ⟨rfl, hbk⟩
            all_goals
              go_wp2_with (at_builtin; refine wpList_app _ rfl _ _ 147 rfl w.heap.size 148 i0 (.int .u64 0) 1 8 ulU64s hi0 hz0 hz1 hz2 rfl (by decide) _ _ _ rfl (HO.out.alloc _) _ 1 (uCells .u64 [m]) rfl ?k0 (uCells_one _ _) ?k1 ?k2 ?k3 ?_)
              case k0 => exact isR_at rfl rfl
              case k1 => unfold maxLen; omega
              case k2 => omega
              case k3 => have := HBR.out.size; simp; omega
              intro out' w4 hown' _ hbel'
              have hbel2 : Below w.heap.size w w4 := (HBR.out.alloc HBR.out.size _).trans hbel'
              have hown2 : w4.ownsRow w.heap.size 148 1 out' (acc ++ [m]).length (uCells .u64 (acc ++ [m])) := by rw [uCells_app, List.length_append]; exact hown'
              have HO2 := Lib.hid hown2
              clear hown' hown2 hbel'
              go_wp2
              go_roundw
              case rel => exact ⟨k + 1, false, 0, acc ++ [m], by go_num, rfl, rfl, by omega, by omega, by simp; omega, HA2.out, HNX.out, HO2.out, hbel2⟩
              case measure => simp [intOf]; omega
          · have h2' : bits .and .u8 (bat c k) 128 = 128 := by rw [h2, if_pos hh]
            have hnx : decN (c.drop (k + 1)) true m acc = r := by rw [← HD1.out, hmm, if_neg (by omega), if_pos (by omega)]
            have HNX := Lib.hid hnx
            clear h2 hdec HDC HD1 hd1 hdrop hxb hm hnb hym hbad hmm hbig hy hnx
            generalize bat c k = x at *
            rcases hbk with rfl | ⟨rfl, hbk⟩
            all_goals
              go_wp2_with fail
              go_roundw
              case rel => exact ⟨k + 1, true, m, acc, by go_num, rfl, rfl, hm2, by omega, by omega, HACC.out, HNX.out, HO.out, HBR.out⟩
              case measure => simp [intOf]; omega
    · have hkl : k = c.length := by omega
      have hge : (c.length : Int) ≤ k := by omega
      have hdk : decide (k < c.length) = false := decide_eq_false (by omega)
      have hrb : r = if b then none else some acc := by rw [← hdec, hkl, List.drop_length]; rfl
      cases b with
      | true =>
        have hR : R = none := by rw [HD.out, hrb]; rfl
        have HR' := Lib.hid hR
        clear hlt hdec hkl hrb hR
        go_wp2_with fail
        rw [HR'.out]
        go_ret2
        exact ⟨rfl, HBR.out⟩
      | false =>
        have hla := (IsU.of_own HO.out).len ulU64s
        cases acc with
        | nil =>
          have hR : R = none := by rw [HD.out, hrb]; rfl
          have HR' := Lib.hid hR
          have hla' : ∀ (ty : TypeId) (W : World), (Builtin.len_ #[147] ty #[u4]).run Tryz.prog W = .ok (.int .i64 0) W := hla
          clear hlt hdec hkl hrb hR hla
          go_wp2_with fail
          rw [HR'.out]
          go_ret2
          exact ⟨rfl, HBR.out⟩
        | cons n0 t =>
          generalize wr = wA at *
          have hu := IsU.of_own HO.out
          obtain ⟨b0, o0, hi0, hl0, hc0⟩ := hu.at_ (P := Tryz.prog) ulU64s szU64 .i64 (i := 0) (by omega) (by simp)
          have hc0' : wA.cell? ⟨b0, o0, none⟩ = some (.int .u64 (n0 : Int)) := hc0
          obtain ⟨vt, hct, hut⟩ := IsR.cutLo hu ulU64s szU64 .i64 (lo := 1) (by omega) (by simp; omega)
          have hut' : IsU .u64 wA vt t := hut
          have hlt1 := hut'.len ulU64s
          have hn0 : n0 ≤ 4294967295 := HACC.out n0 (by simp)
          have hR : R = some (textL (rootL (n0 :: t))) := by rw [HD.out, hrb]; rfl
          have hrt := rootL_right (n := n0) (t := t) HACC.out
          have HR' := Lib.hid hR
          have HUT := Lib.hid hut'
          have hla0 : ((n0 :: t).length : Int) ≠ 0 := by simp; omega
          have hla1 : (((n0 :: t).length : Int) == 0) = false := beq_eq_false_iff_ne.2 hla0
          have hla2 : ((t.length : Int) + 1 == 0) = false := beq_eq_false_iff_ne.2 (by omega)
          have htl : t.length ≤ 90000 := by simp at hak; omega
          have HT2 := Lib.hid (fun W x (hG : Glo W) (hx : IsU .u32 W x (rootL (n0 :: t))) => text_any x (rootL (n0 :: t)) W hG hx hrt.1 hrt.2.1 (by simp [rootL]; omega))
          have hrl : rootL (n0 :: t) = min (n0 / 40) 2 :: (n0 - 40 * min (n0 / 40) 2) :: t := rfl
          rw [hrl] at HT2 HR'
          have HTT : Hid (∀ a ∈ t, a ≤ 4294967295) := fun a ha => HACC.out a (by simp [ha])
          clear hlt hdec hkl hrb hR hc0 hu hut hut' hrl hrt hk hbel
          have hmin : min ((n0 : Int) / 40) 2 = ((min (n0 / 40) 2 : Nat) : Int) := by omega
          have hsub : (n0 : Int) - 40 * ((min (n0 / 40) 2 : Nat) : Int) = ((n0 - 40 * min (n0 / 40) 2 : Nat) : Int) := by omega
          have ha2 : ((min (n0 / 40) 2 : Nat) : Int) ≤ 2 := by omega
          have hb0 : 40 * ((min (n0 / 40) 2 : Nat) : Int) ≤ n0 := by omega
          have hbm : ((n0 - 40 * min (n0 / 40) 2 : Nat) : Int) ≤ 4294967295 := by omega
          have hn0I : (n0 : Int) ≤ 4294967295 := by omega
          generalize n0 - 40 * min (n0 / 40) 2 = y at *
          generalize min (n0 / 40) 2 = x at *
          have hw1 : IntKind.u32.wrap (y : Int) = y := by rw [IntKind.wrap_u32]; omega
          have hw2 : IntKind.u64.wrap (y : Int) = y := by rw [IntKind.wrap_u64]; omega
          have hw3 : IntKind.u32.wrap (x : Int) = x := by rw [IntKind.wrap_u32]; omega
          go_wp2_with fail
          go_loopw [10, 69] (fun out ix wr => D2Rel x y t wA out ix wr) (fun _ ix _ => t.length - (intOf ix).toNat)
          case atStart =>
            refine ⟨0, rfl, Nat.zero_le _, ?_, (Below.refl _ _).alloc (Nat.le_refl _) _⟩
            have := World.ownsRow_lit (base := wA.heap.size) (e := 143) (size := 1) wA #[.int .u32 (x : Int), .int .u32 (y : Int)] 2 (Nat.le_refl _) (by decide) rfl
            simpa [uCells] using this
          case round =>
            obtain ⟨j, rfl, hj, hown, hbel⟩ := hrel
            have HO3 := Lib.hid hown
            have HB3 := Lib.hid hbel
            clear hown
            by_cases hlt : j < t.length
            · obtain ⟨b1, o1, hi1, hl1, hc1⟩ := HUT.out.at_ (P := Tryz.prog) ulU64s szU64 .i64 (i := j) (by omega) (by omega)
              simp only [Int.toNat_natCast] at hc1
              have hgd : t.getD j 0 = t[j] := by simp [hlt]
              rw [hgd] at hc1
              have hc1' := (hbel.cell (p := ⟨b1, o1, none⟩) hl1).trans hc1
              have hz := HTT.out t[j] (List.getElem_mem hlt)
              have htk : (x :: y :: t.take (j + 1)) = (x :: y :: t.take j) ++ [t[j]] := by rw [List.take_succ_eq_append_getElem hlt]; rfl
              have HTK := Lib.hid htk
              have hltI : (j : Int) < t.length := by omega
              obtain ⟨i0, hi0', hz0, hz1, hz2⟩ := info_parts infoU32
              clear hc1 hgd htk hbel
              generalize t[j] = z at *
              have hwz : IntKind.u32.wrap (z : Int) = z := by rw [IntKind.wrap_u32]; omega
              go_wp2_with (at_builtin; refine wpList_app _ rfl _ _ 140 rfl wA.heap.size 143 i0 (.int .u32 0) 1 4 ulU32s hi0' hz0 hz1 hz2 rfl (by decide) _ _ _ rfl (HO3.out.alloc _) _ 1 (uCells .u32 [z]) rfl ?k0 (uCells_one _ _) ?k1 ?k2 ?k3 ?_)
              case k0 => exact isR_at rfl rfl
              case k1 => unfold maxLen; omega
              case k2 => omega
              case k3 => have := HB3.out.size; simp; omega
              intro out' w4 hown' _ hbel'
              have hbel2 : Below wA.heap.size wA w4 := (HB3.out.alloc HB3.out.size _).trans hbel'
              have hown2 : w4.ownsRow wA.heap.size 143 1 out' (j + 1 + 2) (uCells .u32 (x :: y :: t.take (j + 1))) := by
                rw [HTK.out, uCells_app, show j + 1 + 2 = j + 2 + 1 by omega]; exact hown'
              have HO4 := Lib.hid hown2
              clear hown' hown2 hbel'
              go_wp2
              go_roundw
              case rel => exact ⟨j + 1, by go_num, by omega, HO4.out, hbel2⟩
              case measure => simp [intOf]; omega
            · have hge2 : (t.length : Int) ≤ j := by omega
              have hu : IsU .u32 wr u10 (x :: y :: t) := by
                have := HO3.out
                rw [show j = t.length by omega, List.take_length] at this
                exact IsU.of_own this
              have HU := Lib.hid hu
              have hgq : Glo wr := (HG.out.below HBR.out).below hbel
              clear hlt hbel hu
              generalize textL (x :: y :: t) = S at *
              go_wp2_with (first | ((go_at_call 123); ((with_reducible refine (HT2.out _ _ hgq HU.out).mono ?_)); rintro e w3 ⟨rfl, hb3⟩))
              rw [HR'.out]
              go_ret2
              exact ⟨rfl, (HBR.out.trans (HB3.out.mono HBR.out.size)).trans (hb3.mono (by have := HBR.out.size; have := HB3.out.size; omega))⟩
end Go.Proofs.YtlmnmgokfnnbbaaGreatDoor
end

/- Walks over the reference's layer 5 (oid): base, Encode. -/
section
set_option linter.unusedSimpArgs false
set_option linter.unusedVariables false
namespace Go.Proofs.YtlmnmgokfnnbbaaGreatDoor
open Go.RowKit Go.Cr Go.Sort Go.Shelf
theorem b128_low (k n : Nat) (last : Bool) (h : n < 128) : b128 k n last = [UInt8.ofNat (n + if last then 0 else 128)] := by
  cases k with
  | zero => simp only [b128]; rw [Nat.mod_eq_of_lt h]
  | succ k => simp only [b128]; rw [if_pos h]

set_option maxRecDepth 100000 in
set_option maxHeartbeats 2000000 in
theorem rBase (k : Nat) : ∀ (n : Nat) (last : Bool) (w : World), n < 128 ^ (k + 1) → k ≤ 4 → Calls Tryz.prog 201 #[.int .u64 n, .bool last] w (RetO 5 (b128 k n last) w) := by
  induction k with
  | zero =>
    intro n last w hn _
    have hn1 : n < 128 := by simpa using hn
    have HB := Lib.hid (b128_low 0 n last hn1)
    have hZ : bi (UInt8.ofNat (n + if last then 0 else 128)) = (n : Int) + if last then 0 else 128 := by rw [bi_ofNat]; split <;> omega
    have HZ := Lib.hid hZ
    have hm : (n : Int) % 128 = n := by omega
    have hlt : (n : Int) < 128 := by omega
    clear hn hZ hn1
    generalize UInt8.ofNat (n + if last then 0 else 128) = z at *
    cases last with
    | true =>
      have hz : bi z = (n : Int) := by have := HZ.out; simpa using this
      have HZ2 := Lib.hid hz
      clear hz
      go_enter Tryz.func201, Tryz.ntmps201
      go_wp2_with fail
      rw [HB.out]
      go_ret
      refine ⟨_, rfl, ?_, by ((repeat' (first | (with_reducible exact Below.refl _ _) | (with_reducible assumption) | (with_reducible refine Below.setCell ?_ ?_ _) | (with_reducible refine Below.alloc ?_ ?_ _) | (with_reducible refine Below.drew ?_) | (with_reducible refine below_drewN ?_ _) | (with_reducible refine Below.step (by with_reducible assumption) ?_ ?_))) <;> (first | omega | (simp; done) | (simp; omega)))⟩
      have := OwB.one w 5 z (Nat.le_refl _)
      rwa [HZ2.out] at this
    | false =>
      have hz : bi z = (n : Int) + 128 := by have := HZ.out; simpa using this
      have HZ2 := Lib.hid hz
      have h255 : (n : Int) + 128 ≤ 255 := by omega
      clear hz
      go_enter Tryz.func201, Tryz.ntmps201
      go_wp2_with fail
      rw [HB.out]
      go_ret
      refine ⟨_, rfl, ?_, by ((repeat' (first | (with_reducible exact Below.refl _ _) | (with_reducible assumption) | (with_reducible refine Below.setCell ?_ ?_ _) | (with_reducible refine Below.alloc ?_ ?_ _) | (with_reducible refine Below.drew ?_) | (with_reducible refine below_drewN ?_ _) | (with_reducible refine Below.step (by with_reducible assumption) ?_ ?_))) <;> (first | omega | (simp; done) | (simp; omega)))⟩
      have := OwB.one w 5 z (Nat.le_refl _)
      rwa [HZ2.out] at this
  | succ k ih =>
    intro n last w hn hk
    by_cases hn1 : n < 128
    · have h1 := ih n last w (Nat.lt_of_lt_of_le hn1 (by
        have : 128 ^ 1 ≤ 128 ^ (k + 1) := Nat.pow_le_pow_right (by decide) (by omega)
        simpa using this)) (by omega)
      rw [b128_low _ _ _ hn1] at h1 ⊢
      exact h1
    · have IH := Lib.hid (fun W => ih (n / 128) false W (by rw [Nat.pow_succ] at hn; omega) (by omega))
      have hb : b128 (k + 1) n last = b128 k (n / 128) false ++ [UInt8.ofNat (n % 128 + if last then 0 else 128)] := by simp only [b128]; rw [if_neg hn1]
      have HB := Lib.hid hb
      have hZ : bi (UInt8.ofNat (n % 128 + if last then 0 else 128)) = ((n % 128 : Nat) : Int) + if last then 0 else 128 := by rw [bi_ofNat]; split <;> omega
      have HZ := Lib.hid hZ
      have hd : (n : Int) / 128 = ((n / 128 : Nat) : Int) := by omega
      have hm : (n : Int) % 128 = ((n % 128 : Nat) : Int) := by omega
      have hge : (128 : Int) ≤ n := by omega
      have hy : ((n % 128 : Nat) : Int) ≤ 127 := by omega
      have hbig : n < 34359738368 := by
        have : (128 : Nat) ^ (k + 1 + 1) ≤ 128 ^ 6 := Nat.pow_le_pow_right (by decide) (by omega)
        have h6 : (128 : Nat) ^ 6 = 4398046511104 := by decide
        have h5 : (128 : Nat) ^ 5 = 34359738368 := by decide
        have : (128 : Nat) ^ (k + 1 + 1) ≤ 128 ^ 5 := Nat.pow_le_pow_right (by decide) (by omega)
        omega
      have hwq : IntKind.u64.wrap (((n / 128 : Nat) : Int)) = ((n / 128 : Nat) : Int) := by rw [IntKind.wrap_u64]; omega
      have hbl := b128_len k (n / 128) false
      clear hn hZ hn1 hb ih hbig
      generalize UInt8.ofNat (n % 128 + if last then 0 else 128) = z at *
      generalize b128 k (n / 128) false = L at *
      generalize b128 (k + 1) n last = R at *
      generalize n % 128 = y at *
      generalize n / 128 = q at *
      cases last with
      | true =>
        have hz : bi z = (y : Int) := by have := HZ.out; simpa using this
        have HZ2 := Lib.hid hz
        clear hz
        go_enter Tryz.func201, Tryz.ntmps201
        go_wp2_with (first | ((go_at_call 201); ((with_reducible refine (IH.out _).mono ?_)); rintro e w1 ⟨v1, rfl, ho, hb1⟩; have HO := Lib.hid ho; clear ho) | (at_builtin; refine wpList_appB _ rfl _ _ 33 rfl w.heap.size 5 ulB infoB _ _ rfl (HO.out.alloc _) _ _ rfl (isB_new _ _ _ _ HZ2.out) ?k1 ?k2 ?_))
        case k1 => simp; omega
        case k2 => have := hb1.size; simp; omega
        intro v2 w2 ho2 _ hb2
        have HO2 := Lib.hid ho2
        clear ho2
        go_wp2
        rw [HB.out]
        go_ret
        exact ⟨_, rfl, HO2.out, (hb1.alloc hb1.size _).trans hb2⟩
      | false =>
        have hz : bi z = (y : Int) + 128 := by have := HZ.out; simpa using this
        have HZ2 := Lib.hid hz
        clear hz
        go_enter Tryz.func201, Tryz.ntmps201
        go_wp2_with (first | ((go_at_call 201); ((with_reducible refine (IH.out _).mono ?_)); rintro e w1 ⟨v1, rfl, ho, hb1⟩; have HO := Lib.hid ho; clear ho) | (at_builtin; refine wpList_appB _ rfl _ _ 33 rfl w.heap.size 5 ulB infoB _ _ rfl (HO.out.alloc _) _ _ rfl (isB_new _ _ _ _ HZ2.out) ?k1 ?k2 ?_))
        case k1 => simp; omega
        case k2 => have := hb1.size; simp; omega
        intro v2 w2 ho2 _ hb2
        have HO2 := Lib.hid ho2
        clear ho2
        go_wp2
        rw [HB.out]
        go_ret
        exact ⟨_, rfl, HO2.out, (hb1.alloc hb1.size _).trans hb2⟩

theorem rSub (n : Nat) (w : World) (h : n ≤ 4294967295) : Calls Tryz.prog 201 #[.int .u64 n, .bool true] w (RetO 5 (subL n) w) :=
  rBase 4 n true w (Nat.lt_of_le_of_lt h (by decide)) (Nat.le_refl _)

def ReRel (L : List UInt8) (t : List Nat) (w : World) (out ix : Value) (wr : World) : Prop :=
  ∃ (k : Nat), ix = .int .i64 ((k : Int) + 2) ∧ k ≤ t.length ∧ OwB wr w.heap.size 5 out (L ++ (t.take k).flatMap subL) ∧ Below w.heap.size w wr

set_option maxRecDepth 100000 in
set_option maxHeartbeats 4000000 in
theorem rOidEnc (s : ByteArray) (w : World) (hs : s.size ≤ 100000) :
    Calls Tryz.prog 163 #[.string s] w (RetOid (oidE s.data.toList) w) := by
  have HA := Lib.hid (rArcs s w (by omega))
  have hle : ∀ ns, arcsL s.data.toList = some ns → ns.length ≤ 100001 ∧ rightL ns = true ∧ (∀ n ∈ ns, n ≤ 4294967295) := by
    intro ns h
    have h1 := arcsL_len h
    have h2 := arcsL_some h
    have h3 : s.data.toList.length = s.size := rfl
    exact ⟨by omega, h2.2.1, h2.2.2⟩
  have HE : Hid (oidE s.data.toList = (arcsL s.data.toList).map encL) := rfl
  generalize oidE s.data.toList = r at *
  generalize arcsL s.data.toList = q at *
  clear hs
  cases q with
  | none =>
    have HR : Hid (r = none) := HE.out
    have HA2 := Lib.hid (HA.out.mono fun _ _ h => h.no)
    clear hle HE HA
    go_enter Tryz.func163, Tryz.ntmps163
    go_wp2_with (first | ((go_at_call 130); ((with_reducible refine (HA2.out).mono ?_)); rintro e w1 ⟨rfl, hb⟩))
    go_ret2
    exact ⟨hb, .inl ⟨HR.out, rfl⟩⟩
  | some ns0 =>
    obtain ⟨hl, hr, hns⟩ := hle ns0 rfl
    have HR : Hid (r = some (encL ns0)) := HE.out
    obtain ⟨x, y, t, rfl⟩ : ∃ x y t, ns0 = x :: y :: t := by
      match ns0, hr with
      | x :: y :: t, _ => exact ⟨x, y, t, rfl⟩
    have hsub := (subs_root hr hns).1 (40 * x + y) (by simp [subsL])
    have ht : ∀ n ∈ t, n ≤ 4294967295 := fun n hn => hns n (by simp [hn])
    have hx : x ≤ 2 := by simp only [rightL, Bool.and_eq_true, decide_eq_true_eq] at hr; exact hr.1
    have henc : encL (x :: y :: t) = subL (40 * x + y) ++ t.flatMap subL := by simp [encL, subsL]
    rw [henc] at HR
    have htl : t.length ≤ 100000 := by simp at hl; omega
    have HT := Lib.hid ht
    have hxI : (x : Int) ≤ 2 := by omega
    have hsI : 40 * (x : Int) + y ≤ 4294967295 := by omega
    have HA2 := Lib.hid (HA.out.mono fun _ _ h => h.yes)
    clear hle HE henc hns hr ht hl HA
    go_enter Tryz.func163, Tryz.ntmps163
    go_wp2_with (first | ((go_at_call 130); ((with_reducible refine (HA2.out).mono ?_)); rintro e w1 ⟨v, rfl, hu, hb⟩))
    have hlen := hu.len ulU32s
    obtain ⟨b0, o0, hi0, hl0, hc0⟩ := hu.at_ (P := Tryz.prog) ulU32s szU32 .i64 (i := 0) (by omega) (by simp; omega)
    obtain ⟨b1, o1, hi1, hl1, hc1⟩ := hu.at_ (P := Tryz.prog) ulU32s szU32 .i64 (i := 1) (by omega) (by simp; omega)
    have hc0' : w1.cell? ⟨b0, o0, none⟩ = some (.int .u32 (x : Int)) := hc0
    have hc1' : w1.cell? ⟨b1, o1, none⟩ = some (.int .u32 (y : Int)) := hc1
    have hwa : IntKind.u64.wrap (40 * (x : Int)) = 40 * (x : Int) := by rw [IntKind.wrap_u64]; omega
    have hwb : IntKind.u64.wrap (40 * (x : Int) + y) = 40 * (x : Int) + y := by rw [IntKind.wrap_u64]; omega
    have hwx : IntKind.u64.wrap (x : Int) = (x : Int) := by rw [IntKind.wrap_u64]; omega
    have hwy : IntKind.u64.wrap (y : Int) = (y : Int) := by rw [IntKind.wrap_u64]; omega
    have HS := Lib.hid (fun W => rSub (40 * x + y) W hsub)
    rw [show ((40 * x + y : Nat) : Int) = 40 * (x : Int) + y by omega] at HS
    have HU := Lib.hid hu
    clear hu hc0 hc1
    go_region_held3 (fun W' => W'.cell? ⟨b0, o0, none⟩ = some (.int .u32 (x : Int)) ∧ W'.cell? ⟨b1, o1, none⟩ = some (.int .u32 (y : Int)))
      (first | go_keep | (exact ⟨(hb2.cell hl0).trans (by simp [*]), (hb2.cell hl1).trans (by simp [*])⟩))
      (((go_at_call 201); (with_reducible refine (HS.out _).mono ?_); rintro e w2 ⟨v2, rfl, ho2, hb2⟩))
    have hb1 : Below w1.heap.size w1 w2 := (Below.refl _ _).drew.trans hb2
    have HO2 := Lib.hid ho2
    have hsl : (subL (40 * x + y)).length ≤ 5 := b128_len 4 _ true
    have HB1 := Lib.hid hb1
    have hgw : w.heap.size ≤ w1.heap.size := hb.size
    have hfl := flat_take_len t
    have HFL := Lib.hid hfl
    have hln : ((x :: y :: t).length : Int) = (t.length : Int) + 2 := by simp; omega
    rw [hln] at hlen
    clear ho2 hb1 hb2 hi0 hi1 hc0' hc1' hwa hwb hl0 hl1 HS hsub hfl hln
    generalize subL (40 * x + y) = L at *
    go_wp2
    go_loopw [6, 7] (fun out ix wr => ReRel L t w1 out ix wr) (fun _ ix _ => t.length + 2 - (intOf ix).toNat)
    case atStart => exact ⟨0, rfl, Nat.zero_le _, by simpa using HO2.out, HB1.out⟩
    case round =>
      obtain ⟨k, rfl, hk, hO, hbel⟩ := hrel
      have HO := Lib.hid hO
      have HBR := Lib.hid hbel
      clear hO
      by_cases hlt2 : k < t.length
      · obtain ⟨b, o, hi, hbl, hc⟩ := HU.out.at_ (P := Tryz.prog) ulU32s szU32 .i64 (i := (k : Int) + 2) (by omega) (by simp; omega)
        have hgd : (x :: y :: t).getD ((k : Int) + 2).toNat 0 = t[k] := by rw [show ((k : Int) + 2).toNat = k + 2 by omega]; simp [hlt2]
        rw [hgd] at hc
        have hc' := (hbel.cell (p := ⟨b, o, none⟩) hbl).trans hc
        have hnk := HT.out t[k] (List.getElem_mem hlt2)
        have HPP := Lib.hid (fun W => rSub t[k] W hnk)
        have hff := HFL.out k
        have hsz : (subL t[k]).length ≤ 5 := b128_len 4 _ true
        have hfm : (L ++ (t.take k).flatMap subL) ++ subL t[k] = L ++ (t.take (k + 1)).flatMap subL := by
          rw [List.take_succ_eq_append_getElem hlt2, List.flatMap_append, List.append_assoc]; simp
        have HFM := Lib.hid hfm
        have hltI : (k : Int) < t.length := by omega
        have hwz : IntKind.u64.wrap (t[k] : Int) = t[k] := by rw [IntKind.wrap_u64]; omega
        have hLl : (L ++ (t.take k).flatMap subL).length ≤ 600000 := by rw [List.length_append]; omega
        clear hgd hfm hff hc hbel hnk
        generalize t[k] = z at *
        generalize L ++ (t.take k).flatMap subL = LL at *
        go_wp2_with (first | ((go_at_call 201); (with_reducible refine (HPP.out _).mono ?_); rintro e w4 ⟨v4, rfl, ho4, hb4⟩; have HO4 := Lib.hid ho4; clear ho4) | (at_builtin; refine wpList_appB _ rfl _ _ 33 rfl w1.heap.size 5 ulB infoB _ _ rfl (HO.out.below hb4) _ _ rfl HO4.out.isB ?k1 ?k2 ?_))
        case k1 => omega
        case k2 => have := HBR.out.size; have := hb4.size; omega
        intro v5 w5 ho5 _ hb5
        rw [HFM.out] at ho5
        have HO5 := Lib.hid ho5
        have hbel5 : Below w1.heap.size w1 w5 := (HBR.out.trans (hb4.mono HBR.out.size)).trans hb5
        clear ho5 hb5
        go_wp2
        go_roundw
        case rel => exact ⟨k + 1, by go_num, by omega, HO5.out, hbel5⟩
        case measure => simp [intOf]; omega
      · have hge : (t.length : Int) ≤ k := by omega
        have ho' : OwB wr w1.heap.size 5 u6 (L ++ t.flatMap subL) := by
          have := HO.out
          rwa [show k = t.length by omega, List.take_length] at this
        have HO5 := Lib.hid ho'
        clear hlt2 ho' hbel
        go_wp2
        go_ret2
        exact ⟨hb.trans (HBR.out.mono hgw), .inr ⟨_, u6, HR.out, rfl, HO5.out.more hgw⟩⟩
end Go.Proofs.YtlmnmgokfnnbbaaGreatDoor
end

/- Bytes compared; the reference's oid.Decode. -/
section
set_option linter.unusedSimpArgs false
set_option linter.unusedVariables false
namespace Go.Proofs.YtlmnmgokfnnbbaaGreatDoor
open Go.RowKit Go.Cr Go.Sort Go.Shelf
theorem isB_bstr {w : World} {v : Value} {l : List UInt8} (h : IsB w v l) : (convert 33 9 v).run Tryz.prog w = .ok (.string (bStr l)) w := by
  rcases Nat.eq_zero_or_pos l.length with h0 | h0
  · have hl : l = [] := List.length_eq_zero_iff.1 h0
    subst hl
    rw [isB_str h]
    rfl
  · obtain ⟨A, c, rfl, h1, h2, h3⟩ := h
    obtain ⟨b, off, rfl, hb, hc⟩ := h3 h0
    exact run_convert_bytes_back (P := Tryz.prog) w 33 9 5 ⟨b, off, none⟩ c l ulB ulU8 ulStr (fun j hj => by
      rw [Lib.add_plain, hc j hj, bat_eq l j hj]; rfl)

set_option maxRecDepth 100000 in
set_option maxHeartbeats 2000000 in
theorem bytes_any (a b : Value) (la lb : List UInt8) (w : World) (ha : IsB w a la) (hb : IsB w b lb) :
    Calls Tryz.prog 28 #[a, b] w (RetB (.bool (decide (la = lb))) w) := by
  by_cases h : la = lb
  · subst h
    rw [decide_eq_true rfl]
    exact bytes_same a b la w ha hb
  · rw [decide_eq_false h]
    have h1 := isB_bstr ha
    have h2 := isB_bstr hb
    have hbs : ((bStr la).toList == (bStr lb).toList) = false := by rw [ByteArray.toList_eq, ByteArray.toList_eq]; exact beq_eq_false_iff_ne.2 h
    clear ha hb h
    generalize bStr la = s at *
    generalize bStr lb = s' at *
    go_enter Tryz.func28, Tryz.ntmps28
    go_wp2
    (refine bodyPost_retB (v := .bool false) (by (simp only [results, Tryz.results28]; try go_simp)) rfl rfl ?_; ((repeat' (first | (with_reducible exact Below.refl _ _) | (with_reducible assumption) | (with_reducible refine Below.setCell ?_ ?_ _) | (with_reducible refine Below.alloc ?_ ?_ _) | (with_reducible refine Below.drew ?_) | (with_reducible refine below_drewN ?_ _) | (with_reducible refine Below.step (by with_reducible assumption) ?_ ?_))) <;> (first | omega | (simp; done) | (simp; omega))))

def RetOidY (c : List UInt8) (w : World) (e : Ending) (w' : World) : Prop := ∃ v, e = .returned (.tuple #[v, .int .i64 0]) ∧ OwB w' w.heap.size 5 v c ∧ Below w.heap.size w w'
theorem RetOid.yes {c : List UInt8} {w : World} {e : Ending} {w' : World} (h : RetOid (some c) w e w') : RetOidY c w e w' := by
  obtain ⟨hb, ⟨h, _⟩ | ⟨c', v, h, rfl, hu⟩⟩ := h
  · cases h
  · cases h; exact ⟨v, rfl, hu, hb⟩
theorem RetOid.no {w : World} {e : Ending} {w' : World} (h : RetOid none w e w') : RetB (.tuple #[.slice none 0 0, .int .i64 8]) w e w' := by
  obtain ⟨hb, ⟨h, rfl⟩ | ⟨c', v, h, rfl, hu⟩⟩ := h
  · exact ⟨rfl, hb⟩
  · cases h

def RdRel (c : List UInt8) (r : Option (List Nat)) (w : World) (out nv ix : Value) (wr : World) : Prop :=
  ∃ (k : Nat) (n : Nat) (acc : List Nat), ix = .int .i64 k ∧ nv = .int .u64 n ∧ n ≤ 4294967295 ∧ k ≤ c.length ∧ acc.length ≤ k ∧ (∀ a ∈ acc, a ≤ 4294967295) ∧ decR (c.drop k) n acc = r ∧
    wr.ownsRow w.heap.size 148 1 out acc.length (uCells .u64 acc) ∧ Below w.heap.size w wr
def R2Rel (a b : Nat) (t : List Nat) (w1 : World) (out ix : Value) (wr : World) : Prop :=
  ∃ k : Nat, ix = .int .i64 ((k : Int) + 1) ∧ k ≤ t.length ∧ wr.ownsRow w1.heap.size 143 1 out (k + 2) (uCells .u32 (a :: b :: t.take k)) ∧ Below w1.heap.size w1 wr

theorem oidE_text {n : Nat} {t : List Nat} (h : ∀ m ∈ n :: t, m ≤ 4294967295) : oidE (textL (rootL (n :: t))) = some ((n :: t).flatMap subL) := by
  obtain ⟨h1, h2, h3⟩ := rootL_right h
  unfold oidE
  rw [arcsL_text _ h1 h2]
  simp only [Option.map_some, encL, h3]

set_option maxRecDepth 100000 in
set_option maxHeartbeats 8000000 in
theorem rDec (v : Value) (c : List UInt8) (w : World) (hv : IsB w v c) (hl : c.length ≤ 4000) :
    Calls Tryz.prog 167 #[v] w (RetB (decV (oidD c)) w) := by
  rw [← oidR_eq]
  have hlen := hv.len ulB
  have HV := Lib.hid hv
  have HD : Hid (oidR c = match decR c 0 [] with | none => none | some [] => none | some (n :: t) => if oidE (textL (rootL (n :: t))) = some c then some (textL (rootL (n :: t))) else none) := rfl
  obtain ⟨r, hr⟩ : ∃ r, decR c 0 [] = r := ⟨_, rfl⟩
  rw [hr] at HD
  have HR := Lib.hid hr
  have hll : (c.length : Int) ≤ 4000 := by omega
  clear hv hr
  generalize oidR c = R at *
  go_enter Tryz.func167, Tryz.ntmps167
  go_wp2_with fail
  go_loopw [4, 5, 6] (fun out nv ix wr => RdRel c r w out nv ix wr) (fun _ _ ix _ => c.length - (intOf ix).toNat)
  case atStart => exact ⟨0, 0, [], rfl, rfl, by omega, Nat.zero_le _, Nat.zero_le _, by simp, by rw [List.drop_zero]; exact HR.out, World.ownsRow_nil _ _ _ _, Below.refl _ _⟩
  case round =>
    obtain ⟨k, n, acc, rfl, rfl, hn, hk, hak, hacc, hdec, hown, hbel⟩ := hrel
    have HO := Lib.hid hown
    have HBR := Lib.hid hbel
    have HACC := Lib.hid hacc
    clear hown hacc
    by_cases hlt : k < c.length
    · obtain ⟨b0, o0, hi, hbl, hc⟩ := HV.out.at_ (P := Tryz.prog) ulB szB .i64 (i := k) (by omega) (by omega)
      simp only [Int.toNat_natCast] at hc
      have hc' : wr.cell? ⟨b0, o0, none⟩ = some (.int .u8 (bat c k)) := (hbel.cell hbl).trans hc
      have hdrop : c.drop k = c[k] :: c.drop (k + 1) := List.drop_eq_getElem_cons hlt
      have hxb : bat c k = (c[k].toNat : Int) := bat_eq c k hlt
      have hb0 := bat_pos c k
      have hb1 := bat_lt c k
      rw [hdrop] at hdec
      simp only [decR] at hdec
      have HDC := Lib.hid hdec
      have hltI : (k : Int) < c.length := by omega
      have hnI : (n : Int) ≤ 4294967295 := by omega
      obtain ⟨y, hy⟩ : ∃ y : Nat, bat c k % 128 = y := ⟨(bat c k % 128).toNat, by omega⟩
      have hy127 : (y : Int) ≤ 127 := by omega
      have hym : c[k].toNat % 128 = y := by omega
      have hd1 : (if 4294967295 < n * 128 + y then none else if 128 ≤ c[k].toNat then decR (c.drop (k + 1)) (n * 128 + y) acc else decR (c.drop (k + 1)) 0 (acc ++ [n * 128 + y])) = r := by
        rw [← HDC.out, hym]
      have HD1 := Lib.hid hd1
      obtain ⟨m, hmm⟩ : ∃ m : Nat, n * 128 + y = m := ⟨_, rfl⟩
      have hmI : (n : Int) * 128 + y = m := by omega
      clear hc hbel hdec HDC hdrop hd1
      by_cases hbig : 4294967295 < m
      · have hr : r = none := by rw [← HD1.out, if_pos (by omega)]
        have hR : R = none := by rw [HD.out, hr]
        have HR' := Lib.hid hR
        have hbigI : (4294967295 : Int) < m := by omega
        clear HD1 hxb hr hR hym hmm hbig
        generalize bat c k = x at *
        go_wp2_with fail
        rw [HR'.out]
        go_ret2
        exact ⟨rfl, HBR.out⟩
      · have hm2 : m ≤ 4294967295 := by omega
        have hmI2 : (m : Int) ≤ 4294967295 := by omega
        rcases (show bat c k < 128 ∨ 128 ≤ bat c k by omega) with hh | hh
        · have hnx : decR (c.drop (k + 1)) 0 (acc ++ [m]) = r := by rw [← HD1.out, hmm, if_neg (by omega), if_neg (by omega)]
          have HNX := Lib.hid hnx
          have ha2 : ∀ a ∈ acc ++ [m], a ≤ 4294967295 := by
            intro a ha
            simp only [List.mem_append, List.mem_singleton] at ha
            rcases ha with ha | rfl
            · exact HACC.out a ha
            · exact hm2
          have HA2 := Lib.hid ha2
          obtain ⟨i0, hi0, hz0, hz1, hz2⟩ := info_parts infoU64
          clear HD1 hxb hym hmm hbig hnx ha2
          generalize bat c k = x at *
          go_wp2_with (at_builtin; refine wpList_app _ rfl _ _ 147 rfl w.heap.size 148 i0 (.int .u64 0) 1 8 ulU64s hi0 hz0 hz1 hz2 rfl (by decide) _ _ _ rfl (HO.out.alloc _) _ 1 (uCells .u64 [m]) rfl ?k0 (uCells_one _ _) ?k1 ?k2 ?k3 ?_)
          case k0 => exact isR_at rfl rfl
          case k1 => unfold maxLen; omega
          case k2 => omega
          case k3 => have := HBR.out.size; simp; omega
          intro out' w4 hown' _ hbel'
          have hbel2 : Below w.heap.size w w4 := (HBR.out.alloc HBR.out.size _).trans hbel'
          have hown2 : w4.ownsRow w.heap.size 148 1 out' (acc ++ [m]).length (uCells .u64 (acc ++ [m])) := by rw [uCells_app, List.length_append]; exact hown'
          have HO2 := Lib.hid hown2
          clear hown' hown2 hbel'
          go_wp2
          go_roundw
          case rel => exact ⟨k + 1, 0, acc ++ [m], by go_num, rfl, by omega, by omega, by simp; omega, HA2.out, HNX.out, HO2.out, hbel2⟩
          case measure => simp [intOf]; omega
        · have hnx : decR (c.drop (k + 1)) m acc = r := by rw [← HD1.out, hmm, if_neg (by omega), if_pos (by omega)]
          have HNX := Lib.hid hnx
          clear HD1 hxb hym hmm hbig hnx
          generalize bat c k = x at *
          go_wp2_with fail
          go_roundw
          case rel => exact ⟨k + 1, m, acc, by go_num, rfl, hm2, by omega, by omega, HACC.out, HNX.out, HO.out, HBR.out⟩
          case measure => simp [intOf]; omega
    · have hkl : k = c.length := by omega
      have hge : (c.length : Int) ≤ k := by omega
      have hdk : decide (k < c.length) = false := decide_eq_false (by omega)
      have hrb : r = some acc := by rw [← hdec, hkl, List.drop_length]; rfl
      have hla := (IsU.of_own HO.out).len ulU64s
      cases acc with
      | nil =>
        have hR : R = none := by rw [HD.out, hrb]
        have HR' := Lib.hid hR
        have hla' : ∀ (ty : TypeId) (W : World), (Builtin.len_ #[147] ty #[u4]).run Tryz.prog W = .ok (.int .i64 0) W := hla
        clear hlt hdec hkl hrb hR hla
        go_wp2_with fail
        rw [HR'.out]
        go_ret2
        exact ⟨rfl, HBR.out⟩
      | cons n0 t =>
        generalize wr = wA at *
        have hu := IsU.of_own HO.out
        have HUA := Lib.hid hu
        obtain ⟨b0, o0, hi0, hl0, hc0⟩ := hu.at_ (P := Tryz.prog) ulU64s szU64 .i64 (i := 0) (by omega) (by simp)
        have hc0' : wA.cell? ⟨b0, o0, none⟩ = some (.int .u64 (n0 : Int)) := hc0
        have hn0 : n0 ≤ 4294967295 := HACC.out n0 (by simp)
        have hR : R = if oidE (textL (rootL (n0 :: t))) = some c then some (textL (rootL (n0 :: t))) else none := by rw [HD.out, hrb]
        have hrt := rootL_right (n := n0) (t := t) HACC.out
        have hla2 : ((t.length : Int) + 1 == 0) = false := beq_eq_false_iff_ne.2 (by omega)
        have hln : ((n0 :: t).length : Int) = (t.length : Int) + 1 := by simp
        rw [hln] at hla
        have htl : t.length ≤ 4000 := by simp at hak; omega
        have hL2 : (rootL (n0 :: t)).length ≤ 4002 := by simp [rootL]; omega
        have HT2 := Lib.hid (fun W x (hx : IsU .u32 W x (rootL (n0 :: t))) => rText x (rootL (n0 :: t)) W hx hrt.1 hrt.2.1 (by omega))
        have htx := textL_len hrt.2.1
        have HE2 := Lib.hid (fun W => rOidEnc (bStr (textL (rootL (n0 :: t)))) W (by show (textL (rootL (n0 :: t))).length ≤ _; omega))
        rw [show (bStr (textL (rootL (n0 :: t)))).data.toList = textL (rootL (n0 :: t)) from rfl, oidE_text HACC.out] at HE2
        have HE3 := Lib.hid (fun W => (HE2.out W).mono fun _ _ h => h.yes)
        rw [oidE_text HACC.out] at hR
        have HBY := Lib.hid (fun W x (hx : IsB W x ((n0 :: t).flatMap subL)) (hv : IsB W v c) => bytes_any x v _ c W hx hv)
        have hrl : rootL (n0 :: t) = min (n0 / 40) 2 :: (n0 - 40 * min (n0 / 40) 2) :: t := rfl
        rw [hrl] at HT2 hR HE3
        have HTT : Hid (∀ a ∈ t, a ≤ 4294967295) := fun a ha => HACC.out a (by simp [ha])
        have hR' : R = if (n0 :: t).flatMap subL = c then some (textL (min (n0 / 40) 2 :: (n0 - 40 * min (n0 / 40) 2) :: t)) else none := by rw [hR]; simp only [Option.some.injEq]
        have HR' := Lib.hid hR'
        have hmin : (80 : Int) ≤ n0 → (2 : Int) = ((min (n0 / 40) 2 : Nat) : Int) := by omega
        have hsub : (n0 : Int) - 40 * ((min (n0 / 40) 2 : Nat) : Int) = ((n0 - 40 * min (n0 / 40) 2 : Nat) : Int) := by omega
        have ha2 : ((min (n0 / 40) 2 : Nat) : Int) ≤ 2 := by omega
        have hb0 : 40 * ((min (n0 / 40) 2 : Nat) : Int) ≤ n0 := by omega
        have hbm : ((n0 - 40 * min (n0 / 40) 2 : Nat) : Int) ≤ 4294967295 := by omega
        have hn0I : (n0 : Int) ≤ 4294967295 := by omega
        clear hlt hdec hkl hrb hR hR' hc0 hu hrl hrt hk hbel HE2 hln hmin htx hL2
        have hqq : (n0 : Int) < 80 → (n0 : Int) / 40 = ((min (n0 / 40) 2 : Nat) : Int) := by omega
        have hq2 : (80 : Int) ≤ n0 → min (n0 / 40) 2 = 2 := by omega
        generalize n0 - 40 * min (n0 / 40) 2 = y at *
        generalize min (n0 / 40) 2 = x at *
        have hw1 : IntKind.u32.wrap (y : Int) = y := by rw [IntKind.wrap_u32]; omega
        have hw2 : IntKind.u64.wrap (y : Int) = y := by rw [IntKind.wrap_u64]; omega
        have hw3 : IntKind.u32.wrap (x : Int) = x := by rw [IntKind.wrap_u32]; omega
        by_cases h80 : (n0 : Int) < 80
        · have hq := hqq h80
          clear hqq hq2
          go_wp2_with fail
          go_loopw [8, 9] (fun out ix wr => R2Rel x y t wA out ix wr) (fun _ ix _ => t.length + 1 - (intOf ix).toNat)
          case atStart =>
            refine ⟨0, rfl, Nat.zero_le _, ?_, (Below.refl _ _).alloc (Nat.le_refl _) _⟩
            have := World.ownsRow_lit (base := wA.heap.size) (e := 143) (size := 1) wA #[.int .u32 ((x : Nat) : Int), .int .u32 (y : Int)] 2 (Nat.le_refl _) (by decide) rfl
            simpa [uCells] using this
          case round =>
            obtain ⟨j, rfl, hj, hown, hbel⟩ := hrel
            have HO3 := Lib.hid hown
            have HB3 := Lib.hid hbel
            clear hown
            by_cases hlt : j < t.length
            · obtain ⟨b1, o1, hi1, hl1, hc1⟩ := HUA.out.at_ (P := Tryz.prog) ulU64s szU64 .i64 (i := (j : Int) + 1) (by omega) (by simp; omega)
              have hgd : (n0 :: t).getD ((j : Int) + 1).toNat 0 = t[j] := by rw [show ((j : Int) + 1).toNat = j + 1 by omega]; simp [hlt]
              rw [hgd] at hc1
              have hc1' := (hbel.cell (p := ⟨b1, o1, none⟩) hl1).trans hc1
              have hz := HTT.out t[j] (List.getElem_mem hlt)
              have htk : (x :: y :: t.take (j + 1)) = (x :: y :: t.take j) ++ [t[j]] := by rw [List.take_succ_eq_append_getElem hlt]; rfl
              have HTK := Lib.hid htk
              have hltI : (j : Int) < t.length := by omega
              obtain ⟨i0, hi0', hz0, hz1, hz2⟩ := info_parts infoU32
              clear hc1 hgd htk hbel
              generalize t[j] = z at *
              have hwz : IntKind.u32.wrap (z : Int) = z := by rw [IntKind.wrap_u32]; omega
              go_wp2_with (at_builtin; refine wpList_app _ rfl _ _ 140 rfl wA.heap.size 143 i0 (.int .u32 0) 1 4 ulU32s hi0' hz0 hz1 hz2 rfl (by decide) _ _ _ rfl (HO3.out.alloc _) _ 1 (uCells .u32 [z]) rfl ?k0 (uCells_one _ _) ?k1 ?k2 ?k3 ?_)
              case k0 => exact isR_at rfl rfl
              case k1 => unfold maxLen; omega
              case k2 => omega
              case k3 => have := HB3.out.size; simp; omega
              intro out' w4 hown' _ hbel'
              have hbel2 : Below wA.heap.size wA w4 := (HB3.out.alloc HB3.out.size _).trans hbel'
              have hown2 : w4.ownsRow wA.heap.size 143 1 out' (j + 1 + 2) (uCells .u32 (x :: y :: t.take (j + 1))) := by
                rw [HTK.out, uCells_app, show j + 1 + 2 = j + 2 + 1 by omega]; exact hown'
              have HO4 := Lib.hid hown2
              clear hown' hown2 hbel'
              go_wp2
              go_roundw
              case rel => exact ⟨j + 1, by go_num, by omega, HO4.out, hbel2⟩
              case measure => simp [intOf]; omega
            · have hge2 : (t.length : Int) ≤ j := by omega
              have hu : IsU .u32 wr u8 (x :: y :: t) := by
                have := HO3.out
                rw [show j = t.length by omega, List.take_length] at this
                exact IsU.of_own this
              have HU := Lib.hid hu
              have HVB := Lib.hid (HV.out.below (HBR.out.trans (hbel.mono HBR.out.size)))
              have HBB := Lib.hid (HBR.out.trans (hbel.mono HBR.out.size))
              clear hlt hbel hu
              by_cases heq : (n0 :: t).flatMap subL = c
              · have hR2 := HR'.out
                rw [if_pos heq] at hR2
                have HR2 := Lib.hid hR2
                have HBT := Lib.hid (fun W x hx hv => by have := HBY.out W x hx hv; rw [decide_eq_true heq] at this; exact this)
                clear heq hR2
                generalize (n0 :: t).flatMap subL = L at *
                generalize textL (x :: y :: t) = S at *
                go_wp2_with (first | ((go_at_call 204); ((with_reducible refine (HT2.out _ _ HU.out).mono ?_)); rintro e w3 ⟨rfl, hb3⟩) | ((go_at_call 163); ((with_reducible refine (HE3.out _).mono ?_)); rintro e w5 ⟨v5, rfl, ho5, hb5⟩; have HO5 := Lib.hid ho5; clear ho5) | ((go_at_call 28); ((with_reducible refine (HBT.out _ _ HO5.out.isB ((HVB.out.below hb3).below hb5)).mono ?_)); rintro e w6 ⟨rfl, hb6⟩))
                rw [HR2.out]
                go_ret2
                exact ⟨rfl, ((HBB.out.trans (hb3.mono HBB.out.size)).trans (hb5.mono (by have := HBB.out.size; have := hb3.size; omega))).trans (hb6.mono (by have := HBB.out.size; have := hb3.size; have := hb5.size; omega))⟩
              · have hR2 := HR'.out
                rw [if_neg heq] at hR2
                have HR2 := Lib.hid hR2
                have HBT := Lib.hid (fun W x hx hv => by have := HBY.out W x hx hv; rw [decide_eq_false heq] at this; exact this)
                clear heq hR2
                generalize (n0 :: t).flatMap subL = L at *
                generalize textL (x :: y :: t) = S at *
                go_wp2_with (first | ((go_at_call 204); ((with_reducible refine (HT2.out _ _ HU.out).mono ?_)); rintro e w3 ⟨rfl, hb3⟩) | ((go_at_call 163); ((with_reducible refine (HE3.out _).mono ?_)); rintro e w5 ⟨v5, rfl, ho5, hb5⟩; have HO5 := Lib.hid ho5; clear ho5) | ((go_at_call 28); ((with_reducible refine (HBT.out _ _ HO5.out.isB ((HVB.out.below hb3).below hb5)).mono ?_)); rintro e w6 ⟨rfl, hb6⟩))
                rw [HR2.out]
                go_ret2
                exact ⟨rfl, ((HBB.out.trans (hb3.mono HBB.out.size)).trans (hb5.mono (by have := HBB.out.size; have := hb3.size; omega))).trans (hb6.mono (by have := HBB.out.size; have := hb3.size; have := hb5.size; omega))⟩
        · have hx2 := hq2 (by omega)
          have h80' : (80 : Int) ≤ n0 := by omega
          subst hx2
          clear hqq hq2 h80 hw3
          have hsub' : (n0 : Int) - 80 = (y : Int) := by have := hsub; omega
          clear hsub ha2 hb0
          go_wp2_with fail
          go_loopw [8, 9] (fun out ix wr => R2Rel 2 y t wA out ix wr) (fun _ ix _ => t.length + 1 - (intOf ix).toNat)
          case atStart =>
            refine ⟨0, rfl, Nat.zero_le _, ?_, (Below.refl _ _).alloc (Nat.le_refl _) _⟩
            have := World.ownsRow_lit (base := wA.heap.size) (e := 143) (size := 1) wA #[.int .u32 ((2 : Nat) : Int), .int .u32 (y : Int)] 2 (Nat.le_refl _) (by decide) rfl
            simpa [uCells] using this
          case round =>
            obtain ⟨j, rfl, hj, hown, hbel⟩ := hrel
            have HO3 := Lib.hid hown
            have HB3 := Lib.hid hbel
            clear hown
            by_cases hlt : j < t.length
            · obtain ⟨b1, o1, hi1, hl1, hc1⟩ := HUA.out.at_ (P := Tryz.prog) ulU64s szU64 .i64 (i := (j : Int) + 1) (by omega) (by simp; omega)
              have hgd : (n0 :: t).getD ((j : Int) + 1).toNat 0 = t[j] := by rw [show ((j : Int) + 1).toNat = j + 1 by omega]; simp [hlt]
              rw [hgd] at hc1
              have hc1' := (hbel.cell (p := ⟨b1, o1, none⟩) hl1).trans hc1
              have hz := HTT.out t[j] (List.getElem_mem hlt)
              have htk : (2 :: y :: t.take (j + 1)) = (2 :: y :: t.take j) ++ [t[j]] := by rw [List.take_succ_eq_append_getElem hlt]; rfl
              have HTK := Lib.hid htk
              have hltI : (j : Int) < t.length := by omega
              obtain ⟨i0, hi0', hz0, hz1, hz2⟩ := info_parts infoU32
              clear hc1 hgd htk hbel
              generalize t[j] = z at *
              have hwz : IntKind.u32.wrap (z : Int) = z := by rw [IntKind.wrap_u32]; omega
              go_wp2_with (at_builtin; refine wpList_app _ rfl _ _ 140 rfl wA.heap.size 143 i0 (.int .u32 0) 1 4 ulU32s hi0' hz0 hz1 hz2 rfl (by decide) _ _ _ rfl (HO3.out.alloc _) _ 1 (uCells .u32 [z]) rfl ?k0 (uCells_one _ _) ?k1 ?k2 ?k3 ?_)
              case k0 => exact isR_at rfl rfl
              case k1 => unfold maxLen; omega
              case k2 => omega
              case k3 => have := HB3.out.size; simp; omega
              intro out' w4 hown' _ hbel'
              have hbel2 : Below wA.heap.size wA w4 := (HB3.out.alloc HB3.out.size _).trans hbel'
              have hown2 : w4.ownsRow wA.heap.size 143 1 out' (j + 1 + 2) (uCells .u32 (2 :: y :: t.take (j + 1))) := by
                rw [HTK.out, uCells_app, show j + 1 + 2 = j + 2 + 1 by omega]; exact hown'
              have HO4 := Lib.hid hown2
              clear hown' hown2 hbel'
              go_wp2
              go_roundw
              case rel => exact ⟨j + 1, by go_num, by omega, HO4.out, hbel2⟩
              case measure => simp [intOf]; omega
            · have hge2 : (t.length : Int) ≤ j := by omega
              have hu : IsU .u32 wr u8 (2 :: y :: t) := by
                have := HO3.out
                rw [show j = t.length by omega, List.take_length] at this
                exact IsU.of_own this
              have HU := Lib.hid hu
              have HVB := Lib.hid (HV.out.below (HBR.out.trans (hbel.mono HBR.out.size)))
              have HBB := Lib.hid (HBR.out.trans (hbel.mono HBR.out.size))
              clear hlt hbel hu
              by_cases heq : (n0 :: t).flatMap subL = c
              · have hR2 := HR'.out
                rw [if_pos heq] at hR2
                have HR2 := Lib.hid hR2
                have HBT := Lib.hid (fun W x hx hv => by have := HBY.out W x hx hv; rw [decide_eq_true heq] at this; exact this)
                clear heq hR2
                generalize (n0 :: t).flatMap subL = L at *
                generalize textL (2 :: y :: t) = S at *
                go_wp2_with (first | ((go_at_call 204); ((with_reducible refine (HT2.out _ _ HU.out).mono ?_)); rintro e w3 ⟨rfl, hb3⟩) | ((go_at_call 163); ((with_reducible refine (HE3.out _).mono ?_)); rintro e w5 ⟨v5, rfl, ho5, hb5⟩; have HO5 := Lib.hid ho5; clear ho5) | ((go_at_call 28); ((with_reducible refine (HBT.out _ _ HO5.out.isB ((HVB.out.below hb3).below hb5)).mono ?_)); rintro e w6 ⟨rfl, hb6⟩))
                rw [HR2.out]
                go_ret2
                exact ⟨rfl, ((HBB.out.trans (hb3.mono HBB.out.size)).trans (hb5.mono (by have := HBB.out.size; have := hb3.size; omega))).trans (hb6.mono (by have := HBB.out.size; have := hb3.size; have := hb5.size; omega))⟩
              · have hR2 := HR'.out
                rw [if_neg heq] at hR2
                have HR2 := Lib.hid hR2
                have HBT := Lib.hid (fun W x hx hv => by have := HBY.out W x hx hv; rw [decide_eq_false heq] at this; exact this)
                clear heq hR2
                generalize (n0 :: t).flatMap subL = L at *
                generalize textL (2 :: y :: t) = S at *
                go_wp2_with (first | ((go_at_call 204); ((with_reducible refine (HT2.out _ _ HU.out).mono ?_)); rintro e w3 ⟨rfl, hb3⟩) | ((go_at_call 163); ((with_reducible refine (HE3.out _).mono ?_)); rintro e w5 ⟨v5, rfl, ho5, hb5⟩; have HO5 := Lib.hid ho5; clear ho5) | ((go_at_call 28); ((with_reducible refine (HBT.out _ _ HO5.out.isB ((HVB.out.below hb3).below hb5)).mono ?_)); rintro e w6 ⟨rfl, hb6⟩))
                rw [HR2.out]
                go_ret2
                exact ⟨rfl, ((HBB.out.trans (hb3.mono HBB.out.size)).trans (hb5.mono (by have := HBB.out.size; have := hb3.size; omega))).trans (hb6.mono (by have := HBB.out.size; have := hb3.size; have := hb5.size; omega))⟩
end Go.Proofs.YtlmnmgokfnnbbaaGreatDoor
end
