/- The parts RefR, AttrW of one proof, one behind the other. -/
import Derived.Test.YtjjkimjdmpeddaaGreatDoorJ33
import Derived.Test.YtjjkimjdmpeddaaGreatDoorJ26
import Derived.Test.YtjjkimjdmpeddaaGreatDoorJ06
import Derived.Test.YtjjkimjdmpeddaaGreatDoorJ34
import Derived.Test.YtjjkimjdmpeddaaGreatDoorJ09
import Derived.Test.YtjjkimjdmpeddaaGreatDoorJ18

/- Bytes compared; the reference's oid.Decode. -/
section
set_option linter.unusedSimpArgs false
set_option linter.unusedVariables false
namespace Go.Proofs.YtjjkimjdmpeddaaGreatDoor
open Go.RowKit Go.Cr Go.Sort Go.Shelf

theorem isB_bstr {w : World} {v : Value} {l : List UInt8} (h : IsB w v l) : (convert 32 9 v).run Tryz.prog w = .ok (.string (bStr l)) w := by
  rcases Nat.eq_zero_or_pos l.length with h0 | h0
  · have hl : l = [] := List.length_eq_zero_iff.1 h0
    subst hl
    rw [isB_str h]
    rfl
  · obtain ⟨A, c, rfl, h1, h2, h3⟩ := h
    obtain ⟨b, off, rfl, hb, hc⟩ := h3 h0
    exact run_convert_bytes_back (P := Tryz.prog) w 32 9 5 ⟨b, off, none⟩ c l ulB ulU8 ulStr (fun j hj => by
      rw [Lib.add_plain, hc j hj, bat_eq l j hj]; rfl)

set_option maxRecDepth 100000 in
set_option maxHeartbeats 2000000 in
theorem bytes_any (a b : Value) (la lb : List UInt8) (w : World) (ha : IsB w a la) (hb : IsB w b lb) :
    Calls Tryz.prog 21 #[a, b] w (RetB (.bool (decide (la = lb))) w) := by
  by_cases h : la = lb
  · subst h
    rw [decide_eq_true rfl]
    exact bytes_same a b la w ha hb
  · rw [decide_eq_false h]
    have h1 := isB_bstr ha
    have h2 := isB_bstr hb
    have hbs : ((bStr la).toList == (bStr lb).toList) = false := by rw [ByteArray.toList_eq, ByteArray.toList_eq]; exact beq_eq_false_iff_ne.2 h
    clear ha hb h
    generalize bStr la = s at *
    generalize bStr lb = s' at *
    go_enter Tryz.func21, Tryz.ntmps21
    go_wp2
    (refine bodyPost_retB (v := .bool false) (by (simp only [results, Tryz.results21]; try go_simp)) rfl rfl ?_; ((repeat' (first | (with_reducible exact Below.refl _ _) | (with_reducible assumption) | (with_reducible refine Below.setCell ?_ ?_ _) | (with_reducible refine Below.alloc ?_ ?_ _) | (with_reducible refine Below.drew ?_) | (with_reducible refine below_drewN ?_ _) | (with_reducible refine Below.step (by with_reducible assumption) ?_ ?_))) <;> (first | omega | (simp; done) | (simp; omega))))

/-- The encoding, by cases. -/
def RetOidY (c : List UInt8) (w : World) (e : Ending) (w' : World) : Prop := ∃ v, e = .returned (.tuple #[v, .int .i64 0]) ∧ OwB w' w.heap.size 5 v c ∧ Below w.heap.size w w'
theorem RetOid.yes {c : List UInt8} {w : World} {e : Ending} {w' : World} (h : RetOid (some c) w e w') : RetOidY c w e w' := by
  obtain ⟨hb, ⟨h, _⟩ | ⟨c', v, h, rfl, hu⟩⟩ := h
  · cases h
  · cases h; exact ⟨v, rfl, hu, hb⟩
theorem RetOid.no {w : World} {e : Ending} {w' : World} (h : RetOid none w e w') : RetB (.tuple #[.slice none 0 0, .int .i64 8]) w e w' := by
  obtain ⟨hb, ⟨h, rfl⟩ | ⟨c', v, h, rfl, hu⟩⟩ := h
  · exact ⟨rfl, hb⟩
  · cases h

def RdRel (c : List UInt8) (r : Option (List Nat)) (w : World) (out nv ix : Value) (wr : World) : Prop :=
  ∃ (k : Nat) (n : Nat) (acc : List Nat), ix = .int .i64 k ∧ nv = .int .u64 n ∧ n ≤ 4294967295 ∧ k ≤ c.length ∧ acc.length ≤ k ∧ (∀ a ∈ acc, a ≤ 4294967295) ∧ decR (c.drop k) n acc = r ∧
    wr.ownsRow w.heap.size 151 1 out acc.length (uCells .u64 acc) ∧ Below w.heap.size w wr
def R2Rel (a b : Nat) (t : List Nat) (w1 : World) (out ix : Value) (wr : World) : Prop :=
  ∃ k : Nat, ix = .int .i64 ((k : Int) + 1) ∧ k ≤ t.length ∧ wr.ownsRow w1.heap.size 162 1 out (k + 2) (uCells .u32 (a :: b :: t.take k)) ∧ Below w1.heap.size w1 wr

theorem oidE_text {n : Nat} {t : List Nat} (h : ∀ m ∈ n :: t, m ≤ 4294967295) : oidE (textL (rootL (n :: t))) = some ((n :: t).flatMap subL) := by
  obtain ⟨h1, h2, h3⟩ := rootL_right h
  unfold oidE
  rw [arcsL_text _ h1 h2]
  simp only [Option.map_some, encL, h3]

set_option maxRecDepth 100000 in
set_option maxHeartbeats 8000000 in
theorem rDec (v : Value) (c : List UInt8) (w : World) (hv : IsB w v c) (hl : c.length ≤ 4000) :
    Calls Tryz.prog 145 #[v] w (RetB (decV (oidD c)) w) := by
  rw [← oidR_eq]
  have hlen := hv.len ulB
  have HV := Lib.hid hv
  have HD : Hid (oidR c = match decR c 0 [] with | none => none | some [] => none | some (n :: t) => if oidE (textL (rootL (n :: t))) = some c then some (textL (rootL (n :: t))) else none) := rfl
  obtain ⟨r, hr⟩ : ∃ r, decR c 0 [] = r := ⟨_, rfl⟩
  rw [hr] at HD
  have HR := Lib.hid hr
  have hll : (c.length : Int) ≤ 4000 := by omega
  clear hv hr
  generalize oidR c = R at *
  go_enter Tryz.func145, Tryz.ntmps145
  go_wp2_with fail
  go_loopw [4, 5, 6] (fun out nv ix wr => RdRel c r w out nv ix wr) (fun _ _ ix _ => c.length - (intOf ix).toNat)
  case atStart => exact ⟨0, 0, [], rfl, rfl, by omega, Nat.zero_le _, Nat.zero_le _, by simp, by rw [List.drop_zero]; exact HR.out, World.ownsRow_nil _ _ _ _, Below.refl _ _⟩
  case round =>
    obtain ⟨k, n, acc, rfl, rfl, hn, hk, hak, hacc, hdec, hown, hbel⟩ := hrel
    have HO := Lib.hid hown
    have HBR := Lib.hid hbel
    have HACC := Lib.hid hacc
    clear hown hacc
    by_cases hlt : k < c.length
    · obtain ⟨b0, o0, hi, hbl, hc⟩ := HV.out.at_ (P := Tryz.prog) ulB szB .i64 (i := k) (by omega) (by omega)
      simp only [Int.toNat_natCast] at hc
      have hc' : wr.cell? ⟨b0, o0, none⟩ = some (.int .u8 (bat c k)) := (hbel.cell hbl).trans hc
      have hdrop : c.drop k = c[k] :: c.drop (k + 1) := List.drop_eq_getElem_cons hlt
      have hxb : bat c k = (c[k].toNat : Int) := bat_eq c k hlt
      have hb0 := bat_pos c k
      have hb1 := bat_lt c k
      rw [hdrop] at hdec
      simp only [decR] at hdec
      have HDC := Lib.hid hdec
      have hltI : (k : Int) < c.length := by omega
      have hnI : (n : Int) ≤ 4294967295 := by omega
      obtain ⟨y, hy⟩ : ∃ y : Nat, bat c k % 128 = y := ⟨(bat c k % 128).toNat, by omega⟩
      have hy127 : (y : Int) ≤ 127 := by omega
      have hym : c[k].toNat % 128 = y := by omega
      have hd1 : (if 4294967295 < n * 128 + y then none else if 128 ≤ c[k].toNat then decR (c.drop (k + 1)) (n * 128 + y) acc else decR (c.drop (k + 1)) 0 (acc ++ [n * 128 + y])) = r := by
        rw [← HDC.out, hym]
      have HD1 := Lib.hid hd1
      obtain ⟨m, hmm⟩ : ∃ m : Nat, n * 128 + y = m := ⟨_, rfl⟩
      have hmI : (n : Int) * 128 + y = m := by omega
      clear hc hbel hdec HDC hdrop hd1
      by_cases hbig : 4294967295 < m
      · have hr : r = none := by rw [← HD1.out, if_pos (by omega)]
        have hR : R = none := by rw [HD.out, hr]
        have HR' := Lib.hid hR
        have hbigI : (4294967295 : Int) < m := by omega
        clear HD1 hxb hr hR hym hmm hbig
        generalize bat c k = x at *
        go_wp2_with fail
        rw [HR'.out]
        go_ret2
        exact ⟨rfl, HBR.out⟩
      · have hm2 : m ≤ 4294967295 := by omega
        have hmI2 : (m : Int) ≤ 4294967295 := by omega
        rcases (show bat c k < 128 ∨ 128 ≤ bat c k by omega) with hh | hh
        · have hnx : decR (c.drop (k + 1)) 0 (acc ++ [m]) = r := by rw [← HD1.out, hmm, if_neg (by omega), if_neg (by omega)]
          have HNX := Lib.hid hnx
          have ha2 : ∀ a ∈ acc ++ [m], a ≤ 4294967295 := by
            intro a ha
            simp only [List.mem_append, List.mem_singleton] at ha
            rcases ha with ha | rfl
            · exact HACC.out a ha
            · exact hm2
          have HA2 := Lib.hid ha2
          obtain ⟨i0, hi0, hz0, hz1, hz2⟩ := info_parts infoU64
          clear HD1 hxb hym hmm hbig hnx ha2
          generalize bat c k = x at *
          go_wp2_with (at_builtin; refine wpList_app _ rfl _ _ 178 rfl w.heap.size 151 i0 (.int .u64 0) 1 8 ulU64s hi0 hz0 hz1 hz2 rfl (by decide) _ _ _ rfl (HO.out.alloc _) _ 1 (uCells .u64 [m]) rfl ?k0 (uCells_one _ _) ?k1 ?k2 ?k3 ?_)
          case k0 => exact isR_at rfl rfl
          case k1 => unfold maxLen; omega
          case k2 => omega
          case k3 => have := HBR.out.size; simp; omega
          intro out' w4 hown' _ hbel'
          have hbel2 : Below w.heap.size w w4 := (HBR.out.alloc HBR.out.size _).trans hbel'
          have hown2 : w4.ownsRow w.heap.size 151 1 out' (acc ++ [m]).length (uCells .u64 (acc ++ [m])) := by rw [uCells_app, List.length_append]; exact hown'
          have HO2 := Lib.hid hown2
          clear hown' hown2 hbel'
          go_wp2
          go_roundw
          case rel => exact ⟨k + 1, 0, acc ++ [m], by go_num, rfl, by omega, by omega, by simp; omega, HA2.out, HNX.out, HO2.out, hbel2⟩
          case measure => simp [intOf]; omega
        · have hnx : decR (c.drop (k + 1)) m acc = r := by rw [← HD1.out, hmm, if_neg (by omega), if_pos (by omega)]
          have HNX := Lib.hid hnx
          clear HD1 hxb hym hmm hbig hnx
          generalize bat c k = x at *
          go_wp2_with fail
          go_roundw
          case rel => exact ⟨k + 1, m, acc, by go_num, rfl, hm2, by omega, by omega, HACC.out, HNX.out, HO.out, HBR.out⟩
          case measure => simp [intOf]; omega
    · have hkl : k = c.length := by omega
      have hge : (c.length : Int) ≤ k := by omega
      have hdk : decide (k < c.length) = false := decide_eq_false (by omega)
      have hrb : r = some acc := by rw [← hdec, hkl, List.drop_length]; rfl
      have hla := (IsU.of_own HO.out).len ulU64s
      cases acc with
      | nil =>
        have hR : R = none := by rw [HD.out, hrb]
        have HR' := Lib.hid hR
        have hla' : ∀ (ty : TypeId) (W : World), (Builtin.len_ #[178] ty #[u4]).run Tryz.prog W = .ok (.int .i64 0) W := hla
        clear hlt hdec hkl hrb hR hla
        go_wp2_with fail
        rw [HR'.out]
        go_ret2
        exact ⟨rfl, HBR.out⟩
      | cons n0 t =>
        generalize wr = wA at *
        have hu := IsU.of_own HO.out
        have HUA := Lib.hid hu
        obtain ⟨b0, o0, hi0, hl0, hc0⟩ := hu.at_ (P := Tryz.prog) ulU64s szU64 .i64 (i := 0) (by omega) (by simp)
        have hc0' : wA.cell? ⟨b0, o0, none⟩ = some (.int .u64 (n0 : Int)) := hc0
        have hn0 : n0 ≤ 4294967295 := HACC.out n0 (by simp)
        have hR : R = if oidE (textL (rootL (n0 :: t))) = some c then some (textL (rootL (n0 :: t))) else none := by rw [HD.out, hrb]
        have hrt := rootL_right (n := n0) (t := t) HACC.out
        have hla2 : ((t.length : Int) + 1 == 0) = false := beq_eq_false_iff_ne.2 (by omega)
        have hln : ((n0 :: t).length : Int) = (t.length : Int) + 1 := by simp
        rw [hln] at hla
        have htl : t.length ≤ 4000 := by simp at hak; omega
        have hL2 : (rootL (n0 :: t)).length ≤ 4002 := by simp [rootL]; omega
        have HT2 := Lib.hid (fun W x (hx : IsU .u32 W x (rootL (n0 :: t))) => rText x (rootL (n0 :: t)) W hx hrt.1 hrt.2.1 (by omega))
        have htx := textL_len hrt.2.1
        have HE2 := Lib.hid (fun W => rOidEnc (bStr (textL (rootL (n0 :: t)))) W (by show (textL (rootL (n0 :: t))).length ≤ _; omega))
        rw [show (bStr (textL (rootL (n0 :: t)))).data.toList = textL (rootL (n0 :: t)) from rfl, oidE_text HACC.out] at HE2
        have HE3 := Lib.hid (fun W => (HE2.out W).mono fun _ _ h => h.yes)
        rw [oidE_text HACC.out] at hR
        have HBY := Lib.hid (fun W x (hx : IsB W x ((n0 :: t).flatMap subL)) (hv : IsB W v c) => bytes_any x v _ c W hx hv)
        have hrl : rootL (n0 :: t) = min (n0 / 40) 2 :: (n0 - 40 * min (n0 / 40) 2) :: t := rfl
        rw [hrl] at HT2 hR HE3
        have HTT : Hid (∀ a ∈ t, a ≤ 4294967295) := fun a ha => HACC.out a (by simp [ha])
        have hR' : R = if (n0 :: t).flatMap subL = c then some (textL (min (n0 / 40) 2 :: (n0 - 40 * min (n0 / 40) 2) :: t)) else none := by rw [hR]; simp only [Option.some.injEq]
        have HR' := Lib.hid hR'
        have hmin : (80 : Int) ≤ n0 → (2 : Int) = ((min (n0 / 40) 2 : Nat) : Int) := by omega
        have hsub : (n0 : Int) - 40 * ((min (n0 / 40) 2 : Nat) : Int) = ((n0 - 40 * min (n0 / 40) 2 : Nat) : Int) := by omega
        have ha2 : ((min (n0 / 40) 2 : Nat) : Int) ≤ 2 := by omega
        have hb0 : 40 * ((min (n0 / 40) 2 : Nat) : Int) ≤ n0 := by omega
        have hbm : ((n0 - 40 * min (n0 / 40) 2 : Nat) : Int) ≤ 4294967295 := by omega
        have hn0I : (n0 : Int) ≤ 4294967295 := by omega
        clear hlt hdec hkl hrb hR hR' hc0 hu hrl hrt hk hbel HE2 hln hmin htx hL2
        have hqq : (n0 : Int) < 80 → (n0 : Int) / 40 = ((min (n0 / 40) 2 : Nat) : Int) := by omega
        have hq2 : (80 : Int) ≤ n0 → min (n0 / 40) 2 = 2 := by omega
        generalize n0 - 40 * min (n0 / 40) 2 = y at *
        generalize min (n0 / 40) 2 = x at *
        have hw1 : IntKind.u32.wrap (y : Int) = y := by rw [IntKind.wrap_u32]; omega
        have hw2 : IntKind.u64.wrap (y : Int) = y := by rw [IntKind.wrap_u64]; omega
        have hw3 : IntKind.u32.wrap (x : Int) = x := by rw [IntKind.wrap_u32]; omega
        by_cases h80 : (n0 : Int) < 80
        · have hq := hqq h80
          clear hqq hq2
          go_wp2_with fail
          go_loopw [8, 9] (fun out ix wr => R2Rel x y t wA out ix wr) (fun _ ix _ => t.length + 1 - (intOf ix).toNat)
          case atStart =>
            refine ⟨0, rfl, Nat.zero_le _, ?_, (Below.refl _ _).alloc (Nat.le_refl _) _⟩
            have := World.ownsRow_lit (base := wA.heap.size) (e := 162) (size := 1) wA #[.int .u32 ((x : Nat) : Int), .int .u32 (y : Int)] 2 (Nat.le_refl _) (by decide) rfl
            simpa [uCells] using this
          case round =>
            obtain ⟨j, rfl, hj, hown, hbel⟩ := hrel
            have HO3 := Lib.hid hown
            have HB3 := Lib.hid hbel
            clear hown
            by_cases hlt : j < t.length
            · obtain ⟨b1, o1, hi1, hl1, hc1⟩ := HUA.out.at_ (P := Tryz.prog) ulU64s szU64 .i64 (i := (j : Int) + 1) (by omega) (by simp; omega)
              have hgd : (n0 :: t).getD ((j : Int) + 1).toNat 0 = t[j] := by rw [show ((j : Int) + 1).toNat = j + 1 by omega]; simp [hlt]
              rw [hgd] at hc1
              have hc1' := (hbel.cell (p := ⟨b1, o1, none⟩) hl1).trans hc1
              have hz := HTT.out t[j] (List.getElem_mem hlt)
              have htk : (x :: y :: t.take (j + 1)) = (x :: y :: t.take j) ++ [t[j]] := by rw [List.take_succ_eq_append_getElem hlt]; rfl
              have HTK := Lib.hid htk
              have hltI : (j : Int) < t.length := by omega
              obtain ⟨i0, hi0', hz0, hz1, hz2⟩ := info_parts infoU32
              clear hc1 hgd htk hbel
              generalize t[j] = z at *
              have hwz : IntKind.u32.wrap (z : Int) = z := by rw [IntKind.wrap_u32]; omega
              go_wp2_with (at_builtin; refine wpList_app _ rfl _ _ 128 rfl wA.heap.size 162 i0 (.int .u32 0) 1 4 ulU32s hi0' hz0 hz1 hz2 rfl (by decide) _ _ _ rfl (HO3.out.alloc _) _ 1 (uCells .u32 [z]) rfl ?k0 (uCells_one _ _) ?k1 ?k2 ?k3 ?_)
              case k0 => exact isR_at rfl rfl
              case k1 => unfold maxLen; omega
              case k2 => omega
              case k3 => have := HB3.out.size; simp; omega
              intro out' w4 hown' _ hbel'
              have hbel2 : Below wA.heap.size wA w4 := (HB3.out.alloc HB3.out.size _).trans hbel'
              have hown2 : w4.ownsRow wA.heap.size 162 1 out' (j + 1 + 2) (uCells .u32 (x :: y :: t.take (j + 1))) := by
                rw [HTK.out, uCells_app, show j + 1 + 2 = j + 2 + 1 by omega]; exact hown'
              have HO4 := Lib.hid hown2
              clear hown' hown2 hbel'
              go_wp2
              go_roundw
              case rel => exact ⟨j + 1, by go_num, by omega, HO4.out, hbel2⟩
              case measure => simp [intOf]; omega
            · have hge2 : (t.length : Int) ≤ j := by omega
              have hu : IsU .u32 wr u8 (x :: y :: t) := by
                have := HO3.out
                rw [show j = t.length by omega, List.take_length] at this
                exact IsU.of_own this
              have HU := Lib.hid hu
              have HVB := Lib.hid (HV.out.below (HBR.out.trans (hbel.mono HBR.out.size)))
              have HBB := Lib.hid (HBR.out.trans (hbel.mono HBR.out.size))
              clear hlt hbel hu
              by_cases heq : (n0 :: t).flatMap subL = c
              · have hR2 := HR'.out
                rw [if_pos heq] at hR2
                have HR2 := Lib.hid hR2
                have HBT := Lib.hid (fun W x hx hv => by have := HBY.out W x hx hv; rw [decide_eq_true heq] at this; exact this)
                clear heq hR2
                generalize (n0 :: t).flatMap subL = L at *
                generalize textL (x :: y :: t) = S at *
                go_wp2_with (first | ((go_at_call 168); ((with_reducible refine (HT2.out _ _ HU.out).mono ?_)); rintro e w3 ⟨rfl, hb3⟩) | ((go_at_call 105); ((with_reducible refine (HE3.out _).mono ?_)); rintro e w5 ⟨v5, rfl, ho5, hb5⟩; have HO5 := Lib.hid ho5; clear ho5) | ((go_at_call 21); ((with_reducible refine (HBT.out _ _ HO5.out.isB ((HVB.out.below hb3).below hb5)).mono ?_)); rintro e w6 ⟨rfl, hb6⟩))
                rw [HR2.out]
                go_ret2
                exact ⟨rfl, ((HBB.out.trans (hb3.mono HBB.out.size)).trans (hb5.mono (by have := HBB.out.size; have := hb3.size; omega))).trans (hb6.mono (by have := HBB.out.size; have := hb3.size; have := hb5.size; omega))⟩
              · have hR2 := HR'.out
                rw [if_neg heq] at hR2
                have HR2 := Lib.hid hR2
                have HBT := Lib.hid (fun W x hx hv => by have := HBY.out W x hx hv; rw [decide_eq_false heq] at this; exact this)
                clear heq hR2
                generalize (n0 :: t).flatMap subL = L at *
                generalize textL (x :: y :: t) = S at *
                go_wp2_with (first | ((go_at_call 168); ((with_reducible refine (HT2.out _ _ HU.out).mono ?_)); rintro e w3 ⟨rfl, hb3⟩) | ((go_at_call 105); ((with_reducible refine (HE3.out _).mono ?_)); rintro e w5 ⟨v5, rfl, ho5, hb5⟩; have HO5 := Lib.hid ho5; clear ho5) | ((go_at_call 21); ((with_reducible refine (HBT.out _ _ HO5.out.isB ((HVB.out.below hb3).below hb5)).mono ?_)); rintro e w6 ⟨rfl, hb6⟩))
                rw [HR2.out]
                go_ret2
                exact ⟨rfl, ((HBB.out.trans (hb3.mono HBB.out.size)).trans (hb5.mono (by have := HBB.out.size; have := hb3.size; omega))).trans (hb6.mono (by have := HBB.out.size; have := hb3.size; have := hb5.size; omega))⟩
        · have hx2 := hq2 (by omega)
          have h80' : (80 : Int) ≤ n0 := by omega
          subst hx2
          clear hqq hq2 h80 hw3
          have hsub' : (n0 : Int) - 80 = (y : Int) := by have := hsub; omega
          clear hsub ha2 hb0
          go_wp2_with fail
          go_loopw [8, 9] (fun out ix wr => R2Rel 2 y t wA out ix wr) (fun _ ix _ => t.length + 1 - (intOf ix).toNat)
          case atStart =>
            refine ⟨0, rfl, Nat.zero_le _, ?_, (Below.refl _ _).alloc (Nat.le_refl _) _⟩
            have := World.ownsRow_lit (base := wA.heap.size) (e := 162) (size := 1) wA #[.int .u32 ((2 : Nat) : Int), .int .u32 (y : Int)] 2 (Nat.le_refl _) (by decide) rfl
            simpa [uCells] using this
          case round =>
            obtain ⟨j, rfl, hj, hown, hbel⟩ := hrel
            have HO3 := Lib.hid hown
            have HB3 := Lib.hid hbel
            clear hown
            by_cases hlt : j < t.length
            · obtain ⟨b1, o1, hi1, hl1, hc1⟩ := HUA.out.at_ (P := Tryz.prog) ulU64s szU64 .i64 (i := (j : Int) + 1) (by omega) (by simp; omega)
              have hgd : (n0 :: t).getD ((j : Int) + 1).toNat 0 = t[j] := by rw [show ((j : Int) + 1).toNat = j + 1 by omega]; simp [hlt]
              rw [hgd] at hc1
              have hc1' := (hbel.cell (p := ⟨b1, o1, none⟩) hl1).trans hc1
              have hz := HTT.out t[j] (List.getElem_mem hlt)
              have htk : (2 :: y :: t.take (j + 1)) = (2 :: y :: t.take j) ++ [t[j]] := by rw [List.take_succ_eq_append_getElem hlt]; rfl
              have HTK := Lib.hid htk
              have hltI : (j : Int) < t.length := by omega
              obtain ⟨i0, hi0', hz0, hz1, hz2⟩ := info_parts infoU32
              clear hc1 hgd htk hbel
              generalize t[j] = z at *
              have hwz : IntKind.u32.wrap (z : Int) = z := by rw [IntKind.wrap_u32]; omega
              go_wp2_with (at_builtin; refine wpList_app _ rfl _ _ 128 rfl wA.heap.size 162 i0 (.int .u32 0) 1 4 ulU32s hi0' hz0 hz1 hz2 rfl (by decide) _ _ _ rfl (HO3.out.alloc _) _ 1 (uCells .u32 [z]) rfl ?k0 (uCells_one _ _) ?k1 ?k2 ?k3 ?_)
              case k0 => exact isR_at rfl rfl
              case k1 => unfold maxLen; omega
              case k2 => omega
              case k3 => have := HB3.out.size; simp; omega
              intro out' w4 hown' _ hbel'
              have hbel2 : Below wA.heap.size wA w4 := (HB3.out.alloc HB3.out.size _).trans hbel'
              have hown2 : w4.ownsRow wA.heap.size 162 1 out' (j + 1 + 2) (uCells .u32 (2 :: y :: t.take (j + 1))) := by
                rw [HTK.out, uCells_app, show j + 1 + 2 = j + 2 + 1 by omega]; exact hown'
              have HO4 := Lib.hid hown2
              clear hown' hown2 hbel'
              go_wp2
              go_roundw
              case rel => exact ⟨j + 1, by go_num, by omega, HO4.out, hbel2⟩
              case measure => simp [intOf]; omega
            · have hge2 : (t.length : Int) ≤ j := by omega
              have hu : IsU .u32 wr u8 (2 :: y :: t) := by
                have := HO3.out
                rw [show j = t.length by omega, List.take_length] at this
                exact IsU.of_own this
              have HU := Lib.hid hu
              have HVB := Lib.hid (HV.out.below (HBR.out.trans (hbel.mono HBR.out.size)))
              have HBB := Lib.hid (HBR.out.trans (hbel.mono HBR.out.size))
              clear hlt hbel hu
              by_cases heq : (n0 :: t).flatMap subL = c
              · have hR2 := HR'.out
                rw [if_pos heq] at hR2
                have HR2 := Lib.hid hR2
                have HBT := Lib.hid (fun W x hx hv => by have := HBY.out W x hx hv; rw [decide_eq_true heq] at this; exact this)
                clear heq hR2
                generalize (n0 :: t).flatMap subL = L at *
                generalize textL (2 :: y :: t) = S at *
                go_wp2_with (first | ((go_at_call 168); ((with_reducible refine (HT2.out _ _ HU.out).mono ?_)); rintro e w3 ⟨rfl, hb3⟩) | ((go_at_call 105); ((with_reducible refine (HE3.out _).mono ?_)); rintro e w5 ⟨v5, rfl, ho5, hb5⟩; have HO5 := Lib.hid ho5; clear ho5) | ((go_at_call 21); ((with_reducible refine (HBT.out _ _ HO5.out.isB ((HVB.out.below hb3).below hb5)).mono ?_)); rintro e w6 ⟨rfl, hb6⟩))
                rw [HR2.out]
                go_ret2
                exact ⟨rfl, ((HBB.out.trans (hb3.mono HBB.out.size)).trans (hb5.mono (by have := HBB.out.size; have := hb3.size; omega))).trans (hb6.mono (by have := HBB.out.size; have := hb3.size; have := hb5.size; omega))⟩
              · have hR2 := HR'.out
                rw [if_neg heq] at hR2
                have HR2 := Lib.hid hR2
                have HBT := Lib.hid (fun W x hx hv => by have := HBY.out W x hx hv; rw [decide_eq_false heq] at this; exact this)
                clear heq hR2
                generalize (n0 :: t).flatMap subL = L at *
                generalize textL (2 :: y :: t) = S at *
                go_wp2_with (first | ((go_at_call 168); ((with_reducible refine (HT2.out _ _ HU.out).mono ?_)); rintro e w3 ⟨rfl, hb3⟩) | ((go_at_call 105); ((with_reducible refine (HE3.out _).mono ?_)); rintro e w5 ⟨v5, rfl, ho5, hb5⟩; have HO5 := Lib.hid ho5; clear ho5) | ((go_at_call 21); ((with_reducible refine (HBT.out _ _ HO5.out.isB ((HVB.out.below hb3).below hb5)).mono ?_)); rintro e w6 ⟨rfl, hb6⟩))
                rw [HR2.out]
                go_ret2
                exact ⟨rfl, ((HBB.out.trans (hb3.mono HBB.out.size)).trans (hb5.mono (by have := HBB.out.size; have := hb3.size; omega))).trans (hb6.mono (by have := HBB.out.size; have := hb3.size; have := hb5.size; omega))⟩
end Go.Proofs.YtjjkimjdmpeddaaGreatDoor
end

/- Walks over attribute.Valid and Marshal, and the reference's. -/
section
set_option linter.unusedSimpArgs false
set_option linter.unusedVariables false
namespace Go.Proofs.YtjjkimjdmpeddaaGreatDoor
open Go.RowKit Go.Cr

theorem marA_isSome (s v : List UInt8) : (marA s v).isSome = ((arcsL s).isSome && decide (treeOK 16 v)) := by
  unfold marA oidE
  cases arcsL s with
  | none => rfl
  | some ns => simp only [Option.map_some]; by_cases h : treeOK 16 v <;> simp [h]

theorem oidE_len {l c : List UInt8} (h : oidE l = some c) : c.length ≤ 5 * (l.length + 1) := by
  unfold oidE at h
  cases ha : arcsL l with
  | none => rw [ha] at h; cases h
  | some ns =>
    rw [ha] at h
    injection h with h
    subst h
    have h1 := arcsL_len ha
    have h2 := flat_take_len (subsL ns) (subsL ns).length
    rw [List.take_length] at h2
    have h3 : (subsL ns).length ≤ ns.length := by unfold subsL; split <;> simp
    unfold encL
    omega

theorem isBs_one {w : World} {t : TypeId} {g : Nat} {a : Value} {la : List UInt8} (hg : g = w.heap.size) (ha : IsB w a la) : IsBs (w.alloc (.cells #[a] t)) (.slice (some ⟨g, 0, none⟩) 1 1) [la] := by
  subst hg
  refine ⟨[a], ⟨some ⟨w.heap.size, 0, none⟩, 1, rfl, Nat.le_refl _, by decide, rfl, fun _ => ⟨w.heap.size, 0, rfl, by simp, fun j x hj => ?_⟩⟩, fun j hj => ?_⟩
  · rw [Nat.zero_add, World.cell?_alloc_new]
    simpa using hj
  · match j, hj with
    | 0, _ => exact ha.alloc _
theorem isBs_two {w : World} {t : TypeId} {g : Nat} {a b : Value} {la lb : List UInt8} (hg : g = w.heap.size) (ha : IsB w a la) (hb : IsB w b lb) : IsBs (w.alloc (.cells #[a, b] t)) (.slice (some ⟨g, 0, none⟩) 2 2) [la, lb] := by
  subst hg
  refine ⟨[a, b], ⟨some ⟨w.heap.size, 0, none⟩, 2, rfl, Nat.le_refl _, by decide, rfl, fun _ => ⟨w.heap.size, 0, rfl, by simp, fun j x hj => ?_⟩⟩, fun j hj => ?_⟩
  · rw [Nat.zero_add, World.cell?_alloc_new]
    simpa using hj
  · match j, hj with
    | 0, _ => exact ha.alloc _
    | 1, _ => exact hb.alloc _

theorem isB_own {w : World} {base : Nat} {t : TypeId} {v : Value} {l : List UInt8} (h : OwB w base t v l) : IsB w v l := h.isB
end Go.Proofs.YtjjkimjdmpeddaaGreatDoor
end
