/- The parts NodeB of one proof, one behind the other. -/
import Derived.Test.YtjjkimjdmpeddaaGreatDoorJ13

/- Walk over the reference's Bytes of a tree. -/
section
set_option linter.unusedSimpArgs false
set_option linter.unusedVariables false
namespace Go.Proofs.YtjjkimjdmpeddaaGreatDoor
open Go.RowKit Go.Cr

theorem szNode (W : World) : (sizeOf 91).run Tryz.prog W = .ok 5 W := by kernel_rfl
theorem nextH_tag {l : List UInt8} {h : Hdr} (e : nextH l = .ok h) : 0 ≤ h.cls ∧ h.cls ≤ 3 ∧ 0 ≤ h.num ∧ h.num < 31 := by
  obtain ⟨hr, _⟩ := nextH_hdr e
  have := rdHdr_ok hr
  omega
theorem take5_at {xs cs : List Value} {a : Nat} (h : (xs.drop a).take 5 = cs) (j : Nat) (hj : j < 5) : xs[a + j]? = cs[j]? := by
  rw [← h, List.getElem?_take, if_pos hj, List.getElem?_drop]

def BtRel (P : List UInt8) (ks : List (List UInt8)) (cs : Array Value) (w : World) (out ix : Value) (wr : World) : Prop :=
  ∃ k : Nat, ix = .int .i64 k ∧ k ≤ ks.length ∧ OwB wr (w.heap.size + 1) 5 out (P ++ cat ks k) ∧ Blk wr w.heap.size 91 cs ∧ Below w.heap.size w wr

set_option maxRecDepth 100000 in
set_option maxHeartbeats 8000000 in
theorem rBytes_step (d : Nat) (S : Nat → Prop) (cls num : Int) (con : Bool) (v4 v5 : Value) (Pz c : List UInt8) (ks : List (List UInt8)) (xs : List Value) (w : World)
    (t0 : 0 ≤ cls) (t1 : cls ≤ 3) (t2 : 0 ≤ num) (t3 : num < 31) (h4 : IsB w v4 Pz) (h5 : IsR w v5 5 ks.length xs) (hc : Pz ++ ks.flatten = c) (hcl : c.length ≤ 900000)
    (hk : ∀ j (hj : j < ks.length), IsNode S d w ((xs.drop (j * 5)).take 5) ks[j])
    (ih : ∀ (c1 c2 : Int) (c3 : Bool) (a4 a5 : Option Addr) (n4 k4 n5 k5 : Nat) (p : List UInt8) (W : World), IsNode S d W [.int .i64 c1, .int .i64 c2, .bool c3, .slice a4 n4 k4, .slice a5 n5 k5] p → p.length ≤ 900000 →
      Calls Tryz.prog 147 #[.agg #[.int .i64 c1, .int .i64 c2, .bool c3, .slice a4 n4 k4, .slice a5 n5 k5]] W (RetO 5 p W)) :
    Calls Tryz.prog 147 #[.agg #[.int .i64 cls, .int .i64 num, .bool con, v4, v5]] w (RetO 5 (encO cls con num c) w) := by
  have hl4 := h4.len ulB
  have hl5 := h5.len (P := Tryz.prog) ulNodes
  have hmx := h5.maxl
  obtain ⟨A4, k4, rfl⟩ := isB_slice h4
  obtain ⟨A5, k5, rfl⟩ : ∃ A5 k5, v5 = .slice A5 ks.length k5 := by obtain ⟨A5, k5, h, _⟩ := h5; exact ⟨A5, k5, h⟩
  have H4 := Lib.hid h4
  have H5 := Lib.hid h5
  have HK := Lib.hid hk
  have HIH := Lib.hid ih
  have hz := idB_bi cls con num t0 t1 t2 t3
  have HI0 : Hid (∀ W, Calls Tryz.prog 170 #[.int .i64 cls, .bool con, .int .i64 num] W fun e w' => e = .returned (.tuple #[.int .u8 (bi (idB cls con num)), .int .i64 0]) ∧ W = w') := fun W => by
    rw [hz]; exact rIdent_good cls num con W t0 t1 t2 t3
  have HPT := Lib.hid (fun W x u (h : IsB W u c) => rPut x u c W h hcl)
  have HE : Hid (encO cls con num c = idB cls con num :: (lenOct c.length ++ c)) := rfl
  have HCC := Lib.hid hc
  have hpl : ∀ k, (Pz ++ cat ks k).length ≤ 900000 := fun k => by
    have := cat_le ks k
    have e := congrArg List.length hc
    simp only [List.length_append] at e ⊢
    omega
  have HPL := Lib.hid hpl
  have hpz : Pz.length ≤ 900000 := by have := congrArg List.length hc; simp only [List.length_append] at this; omega
  clear h4 h5 hk ih hz hc hpl t0 t1 t2 t3
  generalize encO cls con num c = E at *
  generalize idB cls con num = z at *
  go_enter Tryz.func147, Tryz.ntmps147
  go_wp2_with (first | (go_at_call 170; (with_reducible refine (HI0.out _).mono ?_); rintro e w1 ⟨rfl, rfl⟩) | (at_builtin; refine wpList_appB _ rfl _ _ 32 rfl (w.heap.size + 1) 5 ulB infoB _ [] rfl (own_lit0 (by simp)) _ Pz rfl ((H4.out.alloc _).alloc _) ?k1 ?k2 ?_))
  case k1 => simp; omega
  case k2 => simp
  intro v2 w2 ho2 _ hb2
  have hK2 : Blk w2 w.heap.size 91 #[.int .i64 cls, .int .i64 num, .bool con, .slice A4 Pz.length k4, .slice A5 ks.length k5] := ((Blk.new w _ _).alloc _).below hb2 (by omega)
  have hbw2 : Below w.heap.size w w2 := (((Below.refl _ w).alloc (Nat.le_refl _) (.cells #[.int .i64 cls, .int .i64 num, .bool con, .slice A4 Pz.length k4, .slice A5 ks.length k5] 91)).alloc (by simp) (.cells #[] 5)).trans (hb2.mono (by omega))
  have HO2 := Lib.hid ho2
  have HK2 := Lib.hid hK2
  have HB2 := Lib.hid hbw2
  clear ho2 hb2 hK2 hbw2
  go_wp2_with fail
  go_loopw [5, 6] (fun out ix wr => BtRel Pz ks #[.int .i64 cls, .int .i64 num, .bool con, .slice A4 Pz.length k4, .slice A5 ks.length k5] w out ix wr) (fun _ ix _ => ks.length - (intOf ix).toNat)
  case atStart => exact ⟨0, rfl, Nat.zero_le _, by rw [cat_zero, List.append_nil]; exact HO2.out, HK2.out, HB2.out⟩
  case round =>
    obtain ⟨k, rfl, hk, hO, hK, hbel⟩ := hrel
    have HO := Lib.hid hO
    have HBR := Lib.hid hbel
    have HKR := Lib.hid hK
    have hq := hK.q
    have hf := hK.fz
    have hl := hK.lt
    clear hO hK
    by_cases hlt : k < ks.length
    · obtain ⟨b, o, hi, hbl, hcx⟩ := H5.out.at_ (P := Tryz.prog) ulNodes szNode .i64 (i := k) (by omega) (by omega)
      simp only [Int.toNat_natCast] at hcx
      have hnd := HK.out k hlt
      obtain ⟨x1, x2, x3, y4, y5, m4, z4, m5, z5, hsh⟩ := hnd.shape
      rw [hsh] at hnd
      have p0 := (hbel.cell (p := ⟨b, o + 0, none⟩) hbl).trans (hcx 0 _ (take5_at hsh 0 (by omega)))
      have p1 := (hbel.cell (p := ⟨b, o + 1, none⟩) hbl).trans (hcx 1 _ (take5_at hsh 1 (by omega)))
      have p2 := (hbel.cell (p := ⟨b, o + 2, none⟩) hbl).trans (hcx 2 _ (take5_at hsh 2 (by omega)))
      have p3 := (hbel.cell (p := ⟨b, o + 3, none⟩) hbl).trans (hcx 3 _ (take5_at hsh 3 (by omega)))
      have p4 := (hbel.cell (p := ⟨b, o + 4, none⟩) hbl).trans (hcx 4 _ (take5_at hsh 4 (by omega)))
      rw [Nat.add_zero] at p0
      have hltI : (k : Int) < ks.length := by omega
      have hgd : ks.getD k [] = ks[k] := by simp [hlt]
      have HS := Lib.hid (cat_succ ks k hlt)
      have hc2 := HPL.out (k + 1)
      rw [HS.out, hgd] at hc2
      simp only [List.length_append] at hc2
      rw [hgd] at HS
      have HU := Lib.hid (HIH.out _ _ _ _ _ _ _ _ _ _ wr (hnd.below hbel) (by omega))
      clear hcx hbel hnd hsh hgd
      generalize ks[k] = p at *
      go_wp2_with (first | (go_at_call 147; (with_reducible refine (HU.out).mono ?_); rintro e w2 ⟨v2, rfl, ho2, hb2⟩; have HU2 := Lib.hid ho2.isB; have J0 := Blk.call (HKR.out) hb2; have lJ0 := J0.lt; have qJ0 := J0.q; have rJ0 := J0.fz; have J0' := Lib.hid J0; clear J0; have J0 := J0'.out; clear J0'; have HO3 := Lib.hid (show OwB w2 (w.heap.size + 1) 5 _ _ from ownsRow_below HO.out hb2); have hs2 := hb2.size; clear ho2) | (at_builtin; refine wpList_appB _ rfl _ _ 32 rfl (w.heap.size + 1) 5 ulB infoB _ _ rfl HO3.out _ p rfl HU2.out ?k1 ?k2 ?_))
      case k1 => simp only [List.length_append]; omega
      case k2 => omega
      intro v3 w3 ho3 _ hb3
      rw [← HS.out] at ho3
      have HO4 := Lib.hid ho3
      have HK4 := Lib.hid (show Blk w3 w.heap.size 91 _ from J0.below hb3 (by omega))
      have hbel2 : Below w.heap.size w w3 := (HBR.out.trans (hb2.mono HBR.out.size)).trans (hb3.mono (by omega))
      clear ho3 hb3 hb2 J0 qJ0 rJ0 lJ0 p0 p1 p2 p3 p4 hq hf
      go_wp2
      go_roundw
      case rel => exact ⟨k + 1, by go_num, by omega, HO4.out, HK4.out, hbel2⟩
      case measure => simp [intOf]; omega
    · have hge : (ks.length : Int) ≤ k := by omega
      have ho' : IsB wr u5 c := by
        have := HO.out.isB
        rwa [show k = ks.length by omega, cat_all, HCC.out] at this
      have HO5 := Lib.hid ho'
      clear hlt ho' hbel
      go_wp2_with (first | (go_at_call 49; (with_reducible refine (HPT.out _ z _ HO5.out).mono ?_); rintro e w2 ⟨v2, rfl, ho2, hb2⟩; have HO2 := Lib.hid ho2; clear ho2))
      go_ret
      rw [HE.out]
      exact ⟨_, rfl, HO2.out.more HBR.out.size, HBR.out.trans (hb2.mono HBR.out.size)⟩

theorem rBytes (d : Nat) : ∀ (S : Nat → Prop) (c1 c2 : Int) (c3 : Bool) (a4 a5 : Option Addr) (n4 k4 n5 k5 : Nat) (l : List UInt8) (w : World), IsNode S d w [.int .i64 c1, .int .i64 c2, .bool c3, .slice a4 n4 k4, .slice a5 n5 k5] l → l.length ≤ 900000 →
    Calls Tryz.prog 147 #[.agg #[.int .i64 c1, .int .i64 c2, .bool c3, .slice a4 n4 k4, .slice a5 n5 k5]] w (RetO 5 l w) := by
  induction d with
  | zero => intro S c1 c2 c3 a4 a5 n4 k4 n5 k5 l w h; exact h.elim
  | succ d ih =>
    intro S c1 c2 c3 a4 a5 n4 k4 n5 k5 l w h hl
    obtain ⟨hd, v4, v5, ks, xs, h1, h2, h3, h4, h5, h6, h7⟩ := h
    injection h3 with e1 h3; injection h3 with e2 h3; injection h3 with e3 h3; injection h3 with e4 h3; injection h3 with e5 h3
    injection e1 with _ e1; injection e2 with _ e2; injection e3 with e3
    subst e1 e2 e3 e4 e5
    have ht := nextH_tag h1
    have hk := nextH_ok h1
    have hcl := cont_len h1
    have hcan := nextH_canon h1
    rw [h2, Int.toNat_natCast, List.take_length] at hcan
    have hc : (if hd.con then [] else cont l hd) ++ ks.flatten = cont l hd := by
      cases hcon : hd.con with
      | false => rw [hcon] at h6; simp only [Bool.false_eq_true, if_false] at h6 ⊢; rw [h6]; simp
      | true => rw [hcon] at h6; simp only [if_true] at h6 ⊢; rw [h6]; simp
    have hb4 : IsB w (.slice a4 n4 k4) (if hd.con then [] else cont l hd) := h4.isR.bytes
    have := rBytes_step d S hd.cls hd.num hd.con _ _ _ (cont l hd) ks xs w ht.1 ht.2.1 ht.2.2.1 ht.2.2.2 hb4 h5.isR hc (by omega) (fun j hj => (h7 j hj).2) (fun a b c e f g h i j p W hn hp => ih S a b c e f g h i j p W hn hp)
    rwa [hcan] at this
end Go.Proofs.YtjjkimjdmpeddaaGreatDoor
end
