/- The parts TreeX, TreeY, RefD, RefE of one proof, one behind the other. -/
import Derived.Test.YtjjkimjdmpeddaaGreatDoorJ13
import Derived.Test.YtjjkimjdmpeddaaGreatDoorJ02
import Derived.IntWalk

/- Walk over tree.read: constructed elements; tree.Parse. -/
section
set_option linter.unusedSimpArgs false
set_option linter.unusedVariables false
namespace Go.Proofs.YtjjkimjdmpeddaaGreatDoor
open Go.RowKit Go.Cr

theorem scanL_step {rd : List UInt8 → Option Nat} (hrd : ∀ l n, rd l = some n → 0 < n) (l : List UInt8) (hl : l ≠ []) :
    scanL rd l.length l = match rd l with | none => none | some n => (scanL rd (l.drop n).length (l.drop n)).map (l.take n :: ·) := by
  obtain ⟨k, hk⟩ : ∃ k, l.length = k + 1 := ⟨l.length - 1, by
    have : l.length ≠ 0 := fun h => hl (List.eq_nil_of_length_eq_zero h)
    omega⟩
  rw [hk]
  simp only [scanL, if_neg hl]
  cases hr : rd l with
  | none => rfl
  | some n =>
    have := hrd l n hr
    simp only
    have e := scanL_fuel hrd (l.drop n).length (l.drop n) (k - (l.drop n).length) (Nat.le_refl _)
    rw [show (l.drop n).length + (k - (l.drop n).length) = k by simp; omega] at e
    rw [e]
/-- Whether elements fill bytes, within a depth. -/
def fills (d : Nat) (l : List UInt8) : Bool := (scanL (readT d) l.length l).isSome
theorem fills_nil (d : Nat) : fills d [] = true := rfl
theorem fills_none {d : Nat} {l : List UInt8} (hl : l ≠ []) (h : readT d l = none) : fills d l = false := by
  unfold fills
  rw [scanL_step (fun l n h => by have := readT_bound h; omega) l hl, h]
  rfl
theorem fills_some {d : Nat} {l : List UInt8} {n : Nat} (hl : l ≠ []) (h : readT d l = some n) : fills d l = fills d (l.drop n) := by
  unfold fills
  rw [scanL_step (fun l n h => by have := readT_bound h; omega) l hl, h]
  simp only
  cases scanL (readT d) (l.drop n).length (l.drop n) <;> rfl
theorem seg_drop (l : List UInt8) (a e1 : Int) (n : Nat) (h0 : 0 ≤ a) (h1 : a + n ≤ e1) : (seg l a e1).drop n = seg l (a + n) e1 := by
  unfold seg
  rw [List.drop_take, List.drop_drop]
  congr 1
  · omega
  · congr 1; omega

def TrRel (d : Nat) (l : List UInt8) (a0 lo e2 : Int) (hc hnm : Int) (Q : Bool) (g : Nat) (w : World) (bd : Value) (wr : World) : Prop :=
  ∃ (a : Int) (k1 k2 : Nat) (A1 A2 : Option Addr) (c1 c2 : Nat) (xs1 xs2 : List Value), bd = .int .i64 a ∧ lo ≤ a ∧ a ≤ e2 ∧ (k1 : Int) ≤ a - lo ∧ (k2 : Int) ≤ a - lo ∧ fills d (seg l a e2) = Q ∧
    Blk wr g 182 #[.int .i64 a0, .int .i64 e2, .int .i64 hc, .int .i64 hnm, .bool true, .slice none 0 0, .slice A1 k1 c1, .slice A2 k2 c2] ∧
    wr.ownsRow (g + 1) 91 5 (.slice A1 k1 c1) k1 xs1 ∧ wr.ownsRow (g + 1) 182 8 (.slice A2 k2 c2) k2 xs2 ∧ Apart (.slice A1 k1 c1) (.slice A2 k2 c2) ∧
    Blk wr w.heap.size 182 #[.int .i64 0, .int .i64 0, .int .i64 0, .int .i64 0, .bool false, .slice none 0 0, .slice none 0 0, .slice none 0 0] ∧ Blk wr (w.heap.size + 1) 38 #[.int .i64 0, .int .i64 0] ∧ Below w.heap.size w wr

theorem own_slice {w : World} {base : Nat} {e : TypeId} {k : Nat} {v : Value} {n : Nat} {xs : List Value} (h : w.ownsRow base e k v n xs) : ∃ A c, v = .slice A n c := by
  rcases h.2 with ⟨rfl, rfl⟩ | ⟨g, cap, cur, hv, _⟩
  · exact ⟨none, 0, rfl⟩
  · exact ⟨_, _, hv⟩

set_option maxRecDepth 100000 in
set_option maxHeartbeats 8000000 in
theorem read_con (d : Nat) (v v1 : Value) (l : List UInt8) (a0 e1 : Int) (w : World) (hc hnm hln hsz : Int) (hw : IsB w v1 (seg l a0 e1)) (h0 : 0 ≤ a0) (h1 : a0 ≤ e1) (h2 : e1 ≤ l.length) (hL : l.length ≤ 1000000) (hd : d ≤ 100) (hv : IsB w v l)
    (hcut : ∀ (W : World), (Instr.slice 32 v (some (.int .i64 a0)) (some (.int .i64 e1)) (some (.int .i64 e1))).run Tryz.prog W = .ok v1 W)
    (hr : rdHdr (seg l a0 e1) = .ok ⟨hc, hnm, true, hln, hsz⟩) (hs : hln ≤ e1 - (a0 + hsz))
    (ih : ∀ (a : Int) (W : World), IsB W v l → 0 ≤ a → a ≤ a0 + hsz + hln → Calls Tryz.prog 169 #[v, .int .i64 a, .int .i64 (a0 + hsz + hln), .int .i64 d] W (RetRd (readT d (seg l a (a0 + hsz + hln))) l.length a W)) :
    Calls Tryz.prog 169 #[v, .int .i64 a0, .int .i64 e1, .int .i64 ((d : Int) + 1)] w (if fills d (seg l (a0 + hsz) (a0 + hsz + hln)) then RetRdY a0 (a0 + hsz + hln) w else RetRdN l.length w) := by
  have hbd := rdHdr_ok hr
  have hsl := seg_len l a0 e1 h0 h1 h2
  have HR : Hid (∀ W, IsB W v1 (seg l a0 e1) → Calls Tryz.prog 166 #[v1] W (RetB (.tuple #[hdrV ⟨hc, hnm, true, hln, hsz⟩, errV (0, 0)]) W)) := by
    intro W h
    have := readHdr_any v1 _ W h
    rwa [hr] at this
  have HB := Lib.hid hw
  have HVV := Lib.hid hv
  have HIH := Lib.hid ih
  simp only at hbd
  obtain ⟨hb1, hb2, hb3, hb4, hb5, _⟩ := hbd
  rw [hsl] at hb5
  have hd1 : ((d : Int) + 1 == 0) = false := beq_eq_false_iff_ne.2 (by omega)
  obtain ⟨Q, hQ⟩ : ∃ Q, fills d (seg l (a0 + hsz) (a0 + hsz + hln)) = Q := ⟨_, rfl⟩
  rw [hQ]
  have HQ := Lib.hid hQ
  obtain ⟨P, hP⟩ : ∃ P, (if Q = true then RetRdY a0 (a0 + hsz + hln) w else RetRdN l.length w) = P := ⟨_, rfl⟩
  rw [hP]
  have HP := Lib.hid hP
  have hle2 : a0 + hsz + hln ≤ l.length := by omega
  simp only [hdrV, errV] at HR
  clear hw hr hsl hv ih hQ hP
  have hdw : IntKind.i64.wrap ((d : Int)) = d := IntWalk.i64_in _ (by omega)
  go_enter Tryz.func169, Tryz.ntmps169
  go_wp2_with (first | (go_at_call 166; (with_reducible refine (HR.out _ ((HB.out.alloc _).alloc _)).mono ?_); rintro e w1 ⟨rfl, hbw1⟩; obtain ⟨hcw1, hfw1⟩ := bcell hbw1; have hzw1 := hbw1.size; (try simp at hzw1); have hyw1 : w.heap.size < w1.heap.size := (by omega); (try have hyaw1 : w.heap.size + 1 < w1.heap.size := (by omega)); (try have hybw1 : w.heap.size + 2 < w1.heap.size := (by omega)); (try have hycw1 : w.heap.size + 3 < w1.heap.size := (by omega)); (try have hydw1 : w.heap.size + 4 < w1.heap.size := (by omega)); clear hzw1); have K0 := Blk.call ((Blk.new w 182 #[.int .i64 0, .int .i64 0, .int .i64 0, .int .i64 0, .bool false, .slice none 0 0, .slice none 0 0, .slice none 0 0]).alloc (.cells #[.int .i64 0, .int .i64 0] 38)) hbw1; have lK0 := K0.lt; have qK0 := K0.q; have rK0 := K0.fz; have K0' := Lib.hid K0; clear K0; have K0 := K0'.out; clear K0'; have K1 := Blk.call (blk_in (t := 38) (cs := #[.int .i64 0, .int .i64 0]) (w := w.alloc (.cells #[.int .i64 0, .int .i64 0, .int .i64 0, .int .i64 0, .bool false, .slice none 0 0, .slice none 0 0, .slice none 0 0] 182)) (g := w.heap.size + 1) (by simp)) hbw1; have lK1 := K1.lt; have qK1 := K1.q; have rK1 := K1.fz; have K1' := Lib.hid K1; clear K1; have K1 := K1'.out; clear K1')
  have KK0 := Lib.hid K0
  have KK1 := Lib.hid K1
  have hB1 := Lib.hid (Below.trans (((Below.refl w.heap.size w).alloc (Nat.le_refl _) (.cells #[.int .i64 0, .int .i64 0, .int .i64 0, .int .i64 0, .bool false, .slice none 0 0, .slice none 0 0, .slice none 0 0] 182)).alloc (by simp) (.cells #[.int .i64 0, .int .i64 0] 38)) (hbw1.mono (by simp; omega)))
  clear K0 K1 qK0 rK0 lK0 qK1 rK1 lK1 hbw1 hcw1 hfw1
  generalize hE2 : a0 + hsz + hln = e2 at *
  have HE2 := Lib.hid hE2
  have hlo : a0 + hsz ≤ e2 := by omega
  generalize hLO : a0 + hsz = lo at *
  have hlo0 : 2 ≤ lo := by omega
  clear hE2 hLO
  generalize hG : w1.heap.size + 1 + 1 = G at *
  have HG := Lib.hid hG
  have hGw : w.heap.size ≤ G := by have := hB1.out.size; omega
  have hw1G : w1.heap.size < G := by omega
  clear hG
  go_loopw [13] (fun bd wr => TrRel d l a0 lo e2 hc hnm Q G w bd wr) (fun bd _ => (e2 - intOf bd).toNat)
  case atStart =>
    refine ⟨lo, 0, 0, none, none, 0, 0, [], [], rfl, Int.le_refl _, hlo, by omega, by omega, HQ.out, blk_in (by rw [← HG.out]; simp), World.ownsRow_nil _ _ _ _, World.ownsRow_nil _ _ _ _, Apart.nil_ _, ((KK0.out.alloc _).alloc _).alloc _, ((KK1.out.alloc _).alloc _).alloc _, ?_⟩
    have := hB1.out
    have := hB1.out.size
    exact ((hB1.out.alloc (by omega) _).alloc (by simp; omega) _).alloc (by simp; omega) _
  case round =>
    obtain ⟨a, k1, k2, A1, A2, c1, c2, xs1, xs2, rfl, hla, hae, hk1, hk2, hfl, hK, hO1, hO2, hAp, hK0, hK1, hbel⟩ := hrel
    have HAp := Lib.hid hAp
    have HO1 := Lib.hid hO1
    have HO2 := Lib.hid hO2
    have HFL := Lib.hid hfl
    have HBR := Lib.hid hbel
    have hq := hK.q
    have hf := hK.fz
    have hgl := hK.lt
    have KK := Lib.hid hK
    have KA0 := Lib.hid hK0
    have KA1 := Lib.hid hK1
    clear hAp hO1 hO2 hfl hbel hK hK0 hK1
    by_cases hlt : a < e2
    · have hsl := seg_len l a e2 (by omega) hae hle2
      have hne : seg l a e2 ≠ [] := by intro h; rw [h] at hsl; simp at hsl; omega
      have hi := HIH.out a wr (HVV.out.below HBR.out) (by omega) hae
      cases hrd : readT d (seg l a e2) with
      | none =>
        rw [hrd] at hi
        have hQf : Q = false := by rw [← HFL.out]; exact fills_none hne hrd
        have HI : Hid (Calls Tryz.prog 169 #[v, .int .i64 a, .int .i64 e2, .int .i64 d] wr (RetRdN l.length wr)) := hi
        have hPP : P = RetRdN l.length w := by rw [← HP.out, hQf]; rfl
        have HPP := Lib.hid hPP
        clear hi hrd hQf hne hsl hPP
        go_wp2_with (first | ((go_at_call 169); (with_reducible refine (HI.out).mono ?_); rintro e w2 ⟨hbw2, ec, eo, hec, heo, heo2, rfl⟩; obtain ⟨hcw2, hfw2⟩ := bcell hbw2; have J0 := Blk.call (KA0.out) hbw2; have lJ0 := J0.lt; have qJ0 := J0.q; have rJ0 := J0.fz; have J0' := Lib.hid J0; clear J0; have J0 := J0'.out; clear J0'; have J1 := Blk.call (KA1.out) hbw2; have lJ1 := J1.lt; have qJ1 := J1.q; have rJ1 := J1.fz; have J1' := Lib.hid J1; clear J1; have J1 := J1'.out; clear J1'; have hn : (ec == 0) = false := beq_eq_false_iff_ne.2 (by omega); have hn' : (ec != 0) = true := (by simp; omega)))
        go_region
        go_wp2
        rw [HPP.out]
        refine bodyPost_ret (v := .tuple #[spotZ, errV (ec, eo)]) (by simp only [results, Tryz.results169]; go_simp) rfl ?_
        have hb := HBR.out
        have hbs := HBR.out.size
        exact ⟨by ((repeat' (first | (with_reducible exact Below.refl _ _) | (with_reducible assumption) | (with_reducible refine Below.setCell ?_ ?_ _) | (with_reducible refine Below.alloc ?_ ?_ _) | (with_reducible refine Below.drew ?_) | (with_reducible refine below_drewN ?_ _) | (with_reducible refine Below.step (by with_reducible assumption) ?_ ?_))) <;> (first | omega | (simp; done) | (simp; omega))), ec, eo, hec, heo, heo2, rfl⟩
      | some n =>
        rw [hrd] at hi
        have hb := readT_bound hrd
        have hfl2 : fills d (seg l (a + n) e2) = Q := by
          rw [← HFL.out, fills_some hne hrd, seg_drop l a e2 n (by omega) (by omega)]
        have HF2 := Lib.hid hfl2
        have HI : Hid (Calls Tryz.prog 169 #[v, .int .i64 a, .int .i64 e2, .int .i64 d] wr (RetRdY a (a + n) wr)) := hi
        have hn2 : (2 : Int) ≤ n := by omega
        have hane : a + n ≤ e2 := by omega
        obtain ⟨is0, his, hzs0, hzs1, hzs2⟩ := info_parts infoSpot
        obtain ⟨in0, hin, hzn0, hzn1, hzn2⟩ := info_parts infoNode
        clear hi hrd hne hsl hfl2 hb
        go_wp2_with (first | ((go_at_call 169); (with_reducible refine (HI.out).mono ?_); rintro e w2 ⟨hbw2, ⟨x1, x2, x3, y4, m4, z4, y5, m5, z5, y6, m6, z6⟩, rfl⟩; have J0 := Blk.call (KA0.out) hbw2; have lJ0 := J0.lt; have qJ0 := J0.q; have rJ0 := J0.fz; have J0' := Lib.hid J0; clear J0; have J0 := J0'.out; clear J0'; have J1 := Blk.call (KA1.out) hbw2; have lJ1 := J1.lt; have qJ1 := J1.q; have rJ1 := J1.fz; have J1' := Lib.hid J1; clear J1; have J1 := J1'.out; clear J1'; have JK := Blk.call (KK.out) hbw2; have lJK := JK.lt; have qJK := JK.q; have rJK := JK.fz; have JK' := Lib.hid JK; clear JK; have JK := JK'.out; clear JK'; have hG1 : G < w2.heap.size + 1 := (by omega); have hG2 : G < w2.heap.size + 1 + 1 := (by omega); have HO21 := Lib.hid (ownsRow_below HO1.out hbw2); have HO22 := Lib.hid (ownsRow_below HO2.out hbw2)) | (at_builtin; refine wpList_app2 _ rfl _ _ 180 rfl (G + 1) 182 is0 _ 8 112 ulSpots his hzs0 hzs1 hzs2 rfl (by decide) _ _ _ rfl (((HO22.out.alloc _).alloc _).alloc _) _ 1 [.int .i64 a, .int .i64 (a + n), .int .i64 x1, .int .i64 x2, .bool x3, .slice y4 m4 z4, .slice y5 m5 z5, .slice y6 m6 z6] rfl ?k0 ?k01 ?k1 ?k2 ?k3 ?_))
        case k0 => exact isR_at rfl (by simp)
        case k01 => intro u hu; simp at hu; rcases hu with rfl | rfl | rfl | rfl | rfl | rfl | rfl | rfl <;> rfl
        case k1 => unfold maxLen; omega
        case k2 => omega
        case k3 => simp; omega
        intro v3 w3 hown3 hgrow3 hbel3 hat3
        obtain ⟨A3, c3, rfl⟩ := own_slice hown3
        have hns : some w2.heap.size ≠ (Value.slice A2 k2 c2).ownBlock := fun h => by have := (HO22.out.lt _ h.symm).2; omega
        have hnn : some w2.heap.size ≠ (Value.slice A1 k1 c1).ownBlock := fun h => by have := (HO21.out.lt _ h.symm).2; omega
        have hK3 : Blk w3 G 182 _ := (((JK.alloc _).alloc _).alloc _).below hbel3 (Nat.lt_succ_self G)
        have hT3 : Blk w3 w2.heap.size 182 _ := (((Blk.new w2 _ #[.int .i64 a, .int .i64 (a + n), .int .i64 x1, .int .i64 x2, .bool x3, .slice y4 m4 z4, .slice y5 m5 z5, .slice y6 m6 z6]).alloc _).alloc _).grown hgrow3 hns
        obtain ⟨hN3, hAp3⟩ := apart_app (((HO21.out.alloc _).alloc _).alloc _) HAp.out.symm hgrow3 (by simpa using hat3)
        have hbW3 : Below w.heap.size w w3 := by
          have h1 := HBR.out
          have h2 := HBR.out.size
          have h3 := hbw2.size
          exact (((h1.trans (hbw2.mono h2)).alloc (by omega) _).alloc (by simp; omega) _).alloc (by simp; omega) _ |>.trans (hbel3.mono (by omega))
        have hq3 := hK3.q
        have hf3 := hK3.fz
        have hl3 := hK3.lt
        have ht3 := hT3.q
        have htl := hT3.lt
        have hneA : ¬ (G = w2.heap.size) := by omega
        have hneB : ¬ (w2.heap.size = G) := by omega
        have HJ0 := Lib.hid (show Blk w3 w.heap.size 182 _ from (((J0.alloc _).alloc _).alloc _).below hbel3 (by omega))
        have HJ1 := Lib.hid (show Blk w3 (w.heap.size + 1) 38 _ from (((J1.alloc _).alloc _).alloc _).below hbel3 (by omega))
        have HK3 := Lib.hid hK3
        have HT3 := Lib.hid hT3
        have HN3 := Lib.hid hN3
        have HS3 := Lib.hid hown3
        have HAP3 := Lib.hid hAp3
        have HBW3 := Lib.hid hbW3
        have hG5 : G + 1 ≤ w3.heap.size := by omega
        clear hK3 hT3 hN3 hAp3 hbW3 hown3 hgrow3 hbel3 hat3 hns qJK rJK qJ0 rJ0 qJ1 rJ1 JK J0 J1 lJK lJ0 lJ1 hq hf hgl
        go_wp2_with (at_builtin; refine wpList_app2 _ rfl _ _ 89 rfl (G + 1) 91 in0 _ 5 72 ulNodes hin hzn0 hzn1 hzn2 rfl (by decide) _ _ _ rfl ((ownsRow_setCell_below (a := ⟨G, 7, none⟩) HN3.out (Nat.lt_succ_self G) _).alloc _) _ 1 [.int .i64 x1, .int .i64 x2, .bool x3, .slice y4 m4 z4, .slice y5 m5 z5] rfl ?j0 ?j01 ?j1 ?j2 ?j3 ?_)
        case j0 => exact isR_at rfl (by simp)
        case j01 => intro u hu; simp at hu; rcases hu with rfl | rfl | rfl | rfl | rfl <;> rfl
        case j1 => unfold maxLen; omega
        case j2 => omega
        case j3 => simp; omega
        intro v5 w5 hown5 hgrow5 hbel5 hat5
        obtain ⟨A5, c5, rfl⟩ := own_slice hown5
        have hK5 : Blk w5 G 182 _ := ((HK3.out.set_ 7 (.slice A3 (k2 + 1) c3)).alloc _).below hbel5 (Nat.lt_succ_self G)
        have hT5 : Blk w5 w2.heap.size 182 _ := ((HT3.out.far (p := ⟨G, 7, none⟩) hneB (.slice A3 (k2 + 1) c3)).alloc _).grown hgrow5 hnn
        have hJ05 : Blk w5 w.heap.size 182 _ := ((HJ0.out.far (p := ⟨G, 7, none⟩) (show w.heap.size ≠ G by omega) (.slice A3 (k2 + 1) c3)).alloc _).below hbel5 (by omega)
        have hJ15 : Blk w5 (w.heap.size + 1) 38 _ := ((HJ1.out.far (p := ⟨G, 7, none⟩) (show w.heap.size + 1 ≠ G by omega) (.slice A3 (k2 + 1) c3)).alloc _).below hbel5 (by omega)
        obtain ⟨hS5, hAp5⟩ := apart_app ((ownsRow_setCell_below (a := ⟨G, 7, none⟩) HS3.out (Nat.lt_succ_self G) (.slice A3 (k2 + 1) c3)).alloc _) HAP3.out.symm hgrow5 (by simpa using hat5)
        have hbW5 : Below w.heap.size w w5 := by
          have h1 := HBW3.out
          exact ((h1.setCell (p := ⟨G, 7, none⟩) hGw _).alloc (by simp; omega) _).trans (hbel5.mono (by omega))
        have hq5 := hK5.q
        have hf5 := hK5.fz
        have hl5 := hK5.lt
        have ht5 := hT5.q
        have htl5 := hT5.lt
        have HK5 := Lib.hid hK5
        have HS5 := Lib.hid hS5
        have HAP5 := Lib.hid hAp5
        have HN5 := Lib.hid hown5
        have HBW5 := Lib.hid hbW5
        have HJ05 := Lib.hid hJ05
        have HJ15 := Lib.hid hJ15
        clear hK5 hT5 hJ05 hJ15 hS5 hAp5 hbW5 hown5 hgrow5 hbel5 hat5 hnn hq3 hf3 hl3 ht3 htl
        go_wp2
        go_roundw
        case rel =>
          refine ⟨a + n, k1 + 1, k2 + 1, A5, A3, c5, c3, _, _, rfl, by omega, by omega, by omega, by omega, HF2.out, ?_, ownsRow_setCell_below (a := ⟨G, 6, none⟩) HN5.out (Nat.lt_succ_self G) _, ownsRow_setCell_below (a := ⟨G, 6, none⟩) HS5.out (Nat.lt_succ_self G) _, HAP5.out, HJ05.out.far (p := ⟨G, 6, none⟩) (show w.heap.size ≠ G by omega) _, HJ15.out.far (p := ⟨G, 6, none⟩) (show w.heap.size + 1 ≠ G by omega) _, HBW5.out.setCell (p := ⟨G, 6, none⟩) hGw _⟩
          have := HK5.out.set_ 6 (.slice A5 (k1 + 1) c5)
          simpa using this
        case measure => simp [intOf]; omega
    · have hea : a = e2 := by omega
      have hQt : Q = true := by
        rw [← HFL.out, hea]
        have : seg l e2 e2 = [] := by simp [seg]
        rw [this]; rfl
      have hPP : P = RetRdY a0 e2 w := by rw [← HP.out, hQt]; rfl
      have HPP := Lib.hid hPP
      have hge : e2 ≤ a := by omega
      have hq0 := KA0.out.q
      have hf0 := KA0.out.fz
      have hl0 := KA0.out.lt
      have hq1 := KA1.out.q
      have hf1 := KA1.out.fz
      have hl1 := KA1.out.lt
      clear hlt hea hQt hPP
      go_wp2_with fail
      rw [HPP.out]
      refine bodyPost_ret (v := .tuple #[spotV a0 e2 ⟨hc, hnm, true, none, 0, 0, A1, k1, c1, A2, k2, c2⟩, errV (0, 0)]) (by simp only [results, Tryz.results169]; go_simp) rfl ?_
      have hb := HBR.out
      have hbs := HBR.out.size
      exact ⟨by ((repeat' (first | (with_reducible exact Below.refl _ _) | (with_reducible assumption) | (with_reducible refine Below.setCell ?_ ?_ _) | (with_reducible refine Below.alloc ?_ ?_ _) | (with_reducible refine Below.drew ?_) | (with_reducible refine below_drewN ?_ _) | (with_reducible refine Below.step (by with_reducible assumption) ?_ ?_))) <;> (first | omega | (simp; done) | (simp; omega))), _, rfl⟩
end Go.Proofs.YtjjkimjdmpeddaaGreatDoor
end

/- tree.read at any depth; tree.whole, tree.Parse. -/
section
set_option linter.unusedSimpArgs false
set_option linter.unusedVariables false
namespace Go.Proofs.YtjjkimjdmpeddaaGreatDoor
open Go.RowKit Go.Cr

theorem cont_seg (l : List UInt8) (a e1 : Int) (h : Hdr) (h0 : 0 ≤ a) (hs : 0 ≤ h.size) (hl : 0 ≤ h.len) (h1 : a + h.size + h.len ≤ e1) : cont (seg l a e1) h = seg l (a + h.size) (a + h.size + h.len) := by
  unfold cont seg
  rw [List.drop_take, List.take_take, List.drop_drop]
  congr 1
  · omega
  · congr 1; omega
theorem readT_err {d : Nat} {s : List UInt8} {er : Err} (h : nextH s = .error er) : readT (d + 1) s = none := by simp only [readT, h]
theorem readT_prim {d : Nat} {s : List UInt8} {h : Hdr} (e : nextH s = .ok h) (hc : h.con = false) : readT (d + 1) s = some (h.size + h.len).toNat := by simp only [readT, e, hc, if_true]
theorem readT_con {d : Nat} {s : List UInt8} {h : Hdr} (e : nextH s = .ok h) (hc : h.con = true) : readT (d + 1) s = if fills d (cont s h) then some (h.size + h.len).toNat else none := by
  have hl := cont_len e
  have hk := nextH_ok e
  have hlen : h.len.toNat = (cont s h).length := by omega
  simp only [readT, e, hc, Bool.true_eq_false, if_false]
  unfold fills
  rw [hlen]
  cases scanL (readT d) (cont s h).length (cont s h) <;> rfl

theorem read_any (d : Nat) : d ≤ 60 → ∀ (v : Value) (l : List UInt8) (a e1 : Int) (w : World), IsB w v l → 0 ≤ a → a ≤ e1 → e1 ≤ l.length → l.length ≤ 1000000 →
    Calls Tryz.prog 169 #[v, .int .i64 a, .int .i64 e1, .int .i64 d] w (RetRd (readT d (seg l a e1)) l.length a w) := by
  induction d with
  | zero =>
    intro _ v l a e1 w hw h0 h1 h2 hL
    exact read_zero v a e1 l.length w h0 (by omega)
  | succ d ih =>
    intro hd v l a e1 w hw h0 h1 h2 hL
    obtain ⟨v1, hcut, hv1⟩ := hw.cut3 (P := Tryz.prog) ulB szB .i64 .i64 .i64 h0 h1 h2
    have hv1 : IsB w v1 (seg l a e1) := hv1
    have hsl := seg_len l a e1 h0 h1 h2
    rw [show (((d + 1 : Nat)) : Int) = (d : Int) + 1 by omega]
    cases hr : rdHdr (seg l a e1) with
    | error er =>
      obtain ⟨ec, eo⟩ := er
      rw [readT_err (er := (ec, eo)) (by unfold nextH; rw [hr])]
      exact read_herr d v v1 l a e1 w ec eo hv1 h0 h1 h2 hL (by omega) hcut hr
    | ok h =>
      have hb := rdHdr_ok hr
      by_cases hs : e1 - a - h.size < h.len
      · have hn : nextH (seg l a e1) = .error (1, (seg l a e1).length) := by unfold nextH; rw [hr]; simp only; rw [hsl, if_pos hs]
        rw [readT_err hn]
        exact read_short d v v1 l a e1 w h hv1 h0 h1 h2 hL (by omega) hcut hr hs
      · have hn : nextH (seg l a e1) = .ok h := by unfold nextH; rw [hr]; simp only; rw [hsl, if_neg hs]
        have hcs := cont_seg l a e1 h h0 (by omega) (by omega) (by omega)
        obtain ⟨hc, hnm, hcn, hln, hsz⟩ := h
        simp only at hb hs hcs
        have hend : a + (((hsz + hln).toNat : Nat) : Int) = a + hsz + hln := by omega
        cases hcn with
        | false =>
          rw [readT_prim hn rfl]
          obtain ⟨v2, hcut2, hv2⟩ := hw.cut (P := Tryz.prog) ulB szB .i64 .i64 (lo := a + hsz) (hi := a + hsz + hln) (by omega) (by omega) (by omega)
          have := read_prim d v v1 v2 l a e1 w hc hnm hln hsz hv1 hv2 h0 h1 h2 hL (by omega) hcut hcut2 hr (by omega)
          exact this.mono fun e w' h => by simp only [RetRd, hend]; exact h
        | true =>
          rw [readT_con hn rfl, hcs]
          have := read_con d v v1 l a e1 w hc hnm hln hsz hv1 h0 h1 h2 hL (by omega) hw hcut hr (by omega) (fun a' W hW ha0 ha1 => ih (by omega) v l a' (a + hsz + hln) W hW ha0 ha1 (by omega) hL)
          refine this.mono fun e w' h => ?_
          split at h
          · rename_i hf
            rw [if_pos hf]
            simp only [RetRd, hend]
            exact h
          · rename_i hf
            rw [if_neg hf]
            exact h

/-- What Parse leaves of bytes that are a tree, and of others. -/
def RetPY (w : World) (e : Ending) (w' : World) : Prop := Below w.heap.size w w' ∧ ∃ (c1 c2 : Int) (c3 : Bool) (a4 a5 : Option Addr) (n4 k4 n5 k5 : Nat), e = .returned (.tuple #[.agg #[.int .i64 c1, .int .i64 c2, .bool c3, .slice a4 n4 k4, .slice a5 n5 k5], errV (0, 0)])
def RetPN (L : Nat) (w : World) (e : Ending) (w' : World) : Prop := Below w.heap.size w w' ∧ ∃ (c o : Int), 0 < c ∧ 0 ≤ o ∧ o ≤ L ∧ e = .returned (.tuple #[.agg #[.int .i64 0, .int .i64 0, .bool false, .slice none 0 0, .slice none 0 0], errV (c, o)])

set_option maxRecDepth 100000 in
set_option maxHeartbeats 4000000 in
theorem whole_any (v : Value) (l : List UInt8) (w : World) (hw : IsB w v l) (hL : l.length ≤ 1000000) :
    Calls Tryz.prog 146 #[v] w (if treeOK 16 l then RetRdY 0 l.length w else RetRdN l.length w) := by
  have hlen := hw.len ulB
  have h := read_any 16 (by omega) v l 0 l.length w hw (by omega) (by omega) (by omega) hL
  rw [seg_all] at h
  have HB := Lib.hid hw
  cases hr : readT 16 l with
  | none =>
    rw [hr] at h
    rw [if_neg (by unfold treeOK; rw [hr]; simp)]
    have H : Hid (∀ W, IsB W v l → Calls Tryz.prog 169 #[v, .int .i64 0, .int .i64 l.length, .int .i64 16] W (RetRdN l.length W)) := by
      intro W hW
      have := read_any 16 (by omega) v l 0 l.length W hW (by omega) (by omega) (by omega) hL
      rw [seg_all, hr] at this
      exact this
    clear hr h hw
    go_enter Tryz.func146, Tryz.ntmps146
    go_wp2_with (first | ((go_at_call 169); (with_reducible refine (H.out _ ((HB.out.alloc _).alloc _)).mono ?_); rintro e w1 ⟨hbw1, ec, eo, hec, heo, heo2, rfl⟩; obtain ⟨hcw1, hfw1⟩ := bcell hbw1; have hzw1 := hbw1.size; (try simp at hzw1); have hyw1 : w.heap.size < w1.heap.size := (by omega); (try have hyaw1 : w.heap.size + 1 < w1.heap.size := (by omega)); (try have hybw1 : w.heap.size + 2 < w1.heap.size := (by omega)); (try have hycw1 : w.heap.size + 3 < w1.heap.size := (by omega)); (try have hydw1 : w.heap.size + 4 < w1.heap.size := (by omega)); clear hzw1; have K0 := Blk.call ((Blk.new w 182 #[.int .i64 0, .int .i64 0, .int .i64 0, .int .i64 0, .bool false, .slice none 0 0, .slice none 0 0, .slice none 0 0]).alloc (.cells #[.int .i64 0, .int .i64 0] 38)) hbw1; have lK0 := K0.lt; have qK0 := K0.q; have rK0 := K0.fz; have K0' := Lib.hid K0; clear K0; have K0 := K0'.out; clear K0'; have K1 := Blk.call (blk_in (t := 38) (cs := #[.int .i64 0, .int .i64 0]) (w := w.alloc (.cells #[.int .i64 0, .int .i64 0, .int .i64 0, .int .i64 0, .bool false, .slice none 0 0, .slice none 0 0, .slice none 0 0] 182)) (g := w.heap.size + 1) (by simp)) hbw1; have lK1 := K1.lt; have qK1 := K1.q; have rK1 := K1.fz; have K1' := Lib.hid K1; clear K1; have K1 := K1'.out; clear K1'; have hn : (ec == 0) = false := beq_eq_false_iff_ne.2 (by omega); have hn' : (ec != 0) = true := (by simp; omega)))
    go_region
    go_wp2
    refine bodyPost_ret (v := .tuple #[spotZ, errV (ec, eo)]) (by simp only [results, Tryz.results146]; go_simp) rfl ?_
    exact ⟨by ((repeat' (first | (with_reducible exact Below.refl _ _) | (with_reducible assumption) | (with_reducible refine Below.setCell ?_ ?_ _) | (with_reducible refine Below.alloc ?_ ?_ _) | (with_reducible refine Below.drew ?_) | (with_reducible refine below_drewN ?_ _) | (with_reducible refine Below.step (by with_reducible assumption) ?_ ?_))) <;> (first | omega | (simp; done) | (simp; omega))), ec, eo, hec, heo, heo2, rfl⟩
  | some n =>
    have hb := readT_bound hr
    have H : Hid (∀ W, IsB W v l → Calls Tryz.prog 169 #[v, .int .i64 0, .int .i64 l.length, .int .i64 16] W (RetRdY 0 n W)) := by
      intro W hW
      have := read_any 16 (by omega) v l 0 l.length W hW (by omega) (by omega) (by omega) hL
      rw [seg_all, hr] at this
      refine this.mono fun e w' h => ?_
      have h' : RetRdY 0 (0 + (n : Int)) W e w' := h
      rwa [Int.zero_add] at h'
    by_cases hn : n = l.length
    · rw [if_pos (by unfold treeOK; rw [hr, hn])]
      subst hn
      have hd : decide (l.length < l.length) = false := decide_eq_false (by omega)
      clear hr h hw
      go_enter Tryz.func146, Tryz.ntmps146
      go_wp2_with (first | ((go_at_call 169); (with_reducible refine (H.out _ ((HB.out.alloc _).alloc _)).mono ?_); rintro e w1 ⟨hbw1, ⟨x1, x2, x3, y4, m4, z4, y5, m5, z5, y6, m6, z6⟩, rfl⟩; obtain ⟨hcw1, hfw1⟩ := bcell hbw1; have hzw1 := hbw1.size; (try simp at hzw1); have hyw1 : w.heap.size < w1.heap.size := (by omega); (try have hyaw1 : w.heap.size + 1 < w1.heap.size := (by omega)); (try have hybw1 : w.heap.size + 2 < w1.heap.size := (by omega)); (try have hycw1 : w.heap.size + 3 < w1.heap.size := (by omega)); (try have hydw1 : w.heap.size + 4 < w1.heap.size := (by omega)); clear hzw1; have K0 := Blk.call ((Blk.new w 182 #[.int .i64 0, .int .i64 0, .int .i64 0, .int .i64 0, .bool false, .slice none 0 0, .slice none 0 0, .slice none 0 0]).alloc (.cells #[.int .i64 0, .int .i64 0] 38)) hbw1; have lK0 := K0.lt; have qK0 := K0.q; have rK0 := K0.fz; have K0' := Lib.hid K0; clear K0; have K0 := K0'.out; clear K0'; have K1 := Blk.call (blk_in (t := 38) (cs := #[.int .i64 0, .int .i64 0]) (w := w.alloc (.cells #[.int .i64 0, .int .i64 0, .int .i64 0, .int .i64 0, .bool false, .slice none 0 0, .slice none 0 0, .slice none 0 0] 182)) (g := w.heap.size + 1) (by simp)) hbw1; have lK1 := K1.lt; have qK1 := K1.q; have rK1 := K1.fz; have K1' := Lib.hid K1; clear K1; have K1 := K1'.out; clear K1'))
      go_region
      go_wp2
      refine bodyPost_ret (v := .tuple #[spotV 0 l.length ⟨x1, x2, x3, y4, m4, z4, y5, m5, z5, y6, m6, z6⟩, errV (0, 0)]) (by simp only [results, Tryz.results146]; go_simp) rfl ?_
      exact ⟨by ((repeat' (first | (with_reducible exact Below.refl _ _) | (with_reducible assumption) | (with_reducible refine Below.setCell ?_ ?_ _) | (with_reducible refine Below.alloc ?_ ?_ _) | (with_reducible refine Below.drew ?_) | (with_reducible refine below_drewN ?_ _) | (with_reducible refine Below.step (by with_reducible assumption) ?_ ?_))) <;> (first | omega | (simp; done) | (simp; omega))), _, rfl⟩
    · rw [if_neg (by unfold treeOK; rw [hr]; simp [hn])]
      have hlt : (n : Int) < l.length := by omega
      have hd : decide (n < l.length) = true := decide_eq_true (by omega)
      clear hr h hw
      go_enter Tryz.func146, Tryz.ntmps146
      go_wp2_with (first | ((go_at_call 169); (with_reducible refine (H.out _ ((HB.out.alloc _).alloc _)).mono ?_); rintro e w1 ⟨hbw1, ⟨x1, x2, x3, y4, m4, z4, y5, m5, z5, y6, m6, z6⟩, rfl⟩; obtain ⟨hcw1, hfw1⟩ := bcell hbw1; have hzw1 := hbw1.size; (try simp at hzw1); have hyw1 : w.heap.size < w1.heap.size := (by omega); (try have hyaw1 : w.heap.size + 1 < w1.heap.size := (by omega)); (try have hybw1 : w.heap.size + 2 < w1.heap.size := (by omega)); (try have hycw1 : w.heap.size + 3 < w1.heap.size := (by omega)); (try have hydw1 : w.heap.size + 4 < w1.heap.size := (by omega)); clear hzw1; have K0 := Blk.call ((Blk.new w 182 #[.int .i64 0, .int .i64 0, .int .i64 0, .int .i64 0, .bool false, .slice none 0 0, .slice none 0 0, .slice none 0 0]).alloc (.cells #[.int .i64 0, .int .i64 0] 38)) hbw1; have lK0 := K0.lt; have qK0 := K0.q; have rK0 := K0.fz; have K0' := Lib.hid K0; clear K0; have K0 := K0'.out; clear K0'; have K1 := Blk.call (blk_in (t := 38) (cs := #[.int .i64 0, .int .i64 0]) (w := w.alloc (.cells #[.int .i64 0, .int .i64 0, .int .i64 0, .int .i64 0, .bool false, .slice none 0 0, .slice none 0 0, .slice none 0 0] 182)) (g := w.heap.size + 1) (by simp)) hbw1; have lK1 := K1.lt; have qK1 := K1.q; have rK1 := K1.fz; have K1' := Lib.hid K1; clear K1; have K1 := K1'.out; clear K1'))
      go_region
      go_wp2
      refine bodyPost_ret (v := .tuple #[spotZ, errV (2, n)]) (by simp only [results, Tryz.results146]; go_simp) rfl ?_
      exact ⟨by ((repeat' (first | (with_reducible exact Below.refl _ _) | (with_reducible assumption) | (with_reducible refine Below.setCell ?_ ?_ _) | (with_reducible refine Below.alloc ?_ ?_ _) | (with_reducible refine Below.drew ?_) | (with_reducible refine below_drewN ?_ _) | (with_reducible refine Below.step (by with_reducible assumption) ?_ ?_))) <;> (first | omega | (simp; done) | (simp; omega))), 2, n, by omega, by omega, by omega, rfl⟩

set_option maxRecDepth 100000 in
set_option maxHeartbeats 4000000 in
theorem parse_yes (v : Value) (l : List UInt8) (w : World) (hw : IsB w v l) (hL : l.length ≤ 1000000) (ht : treeOK 16 l) : Calls Tryz.prog 114 #[v] w (RetPY w) := by
  have H : Hid (∀ W, IsB W v l → Calls Tryz.prog 146 #[v] W (RetRdY 0 l.length W)) := by
    intro W hW
    have := whole_any v l W hW hL
    rwa [if_pos ht] at this
  have HB := Lib.hid hw
  clear hw ht
  go_enter Tryz.func114, Tryz.ntmps114
  go_wp2_with (first | ((go_at_call 146); (with_reducible refine (H.out _ ((HB.out.alloc _).alloc _)).mono ?_); rintro e w1 ⟨hbw1, ⟨x1, x2, x3, y4, m4, z4, y5, m5, z5, y6, m6, z6⟩, rfl⟩; obtain ⟨hcw1, hfw1⟩ := bcell hbw1; have hzw1 := hbw1.size; (try simp at hzw1); have hyw1 : w.heap.size < w1.heap.size := (by omega); (try have hyaw1 : w.heap.size + 1 < w1.heap.size := (by omega)); (try have hybw1 : w.heap.size + 2 < w1.heap.size := (by omega)); (try have hycw1 : w.heap.size + 3 < w1.heap.size := (by omega)); (try have hydw1 : w.heap.size + 4 < w1.heap.size := (by omega)); clear hzw1; have K0 := Blk.call ((Blk.new w 91 #[.int .i64 0, .int .i64 0, .bool false, .slice none 0 0, .slice none 0 0]).alloc (.cells #[.int .i64 0, .int .i64 0] 38)) hbw1; have lK0 := K0.lt; have qK0 := K0.q; have rK0 := K0.fz; have K0' := Lib.hid K0; clear K0; have K0 := K0'.out; clear K0'; have K1 := Blk.call (blk_in (t := 38) (cs := #[.int .i64 0, .int .i64 0]) (w := w.alloc (.cells #[.int .i64 0, .int .i64 0, .bool false, .slice none 0 0, .slice none 0 0] 91)) (g := w.heap.size + 1) (by simp)) hbw1; have lK1 := K1.lt; have qK1 := K1.q; have rK1 := K1.fz; have K1' := Lib.hid K1; clear K1; have K1 := K1'.out; clear K1'))
  go_region
  go_wp2
  refine bodyPost_ret (v := .tuple #[.agg #[.int .i64 x1, .int .i64 x2, .bool x3, .slice y4 m4 z4, .slice y5 m5 z5], errV (0, 0)]) (by simp only [results, Tryz.results114]; go_simp) rfl ?_
  exact ⟨by ((repeat' (first | (with_reducible exact Below.refl _ _) | (with_reducible assumption) | (with_reducible refine Below.setCell ?_ ?_ _) | (with_reducible refine Below.alloc ?_ ?_ _) | (with_reducible refine Below.drew ?_) | (with_reducible refine below_drewN ?_ _) | (with_reducible refine Below.step (by with_reducible assumption) ?_ ?_))) <;> (first | omega | (simp; done) | (simp; omega))), x1, x2, x3, y4, y5, m4, z4, m5, z5, rfl⟩

set_option maxRecDepth 100000 in
set_option maxHeartbeats 4000000 in
theorem parse_no (v : Value) (l : List UInt8) (w : World) (hw : IsB w v l) (hL : l.length ≤ 1000000) (ht : ¬ treeOK 16 l) : Calls Tryz.prog 114 #[v] w (RetPN l.length w) := by
  have H : Hid (∀ W, IsB W v l → Calls Tryz.prog 146 #[v] W (RetRdN l.length W)) := by
    intro W hW
    have := whole_any v l W hW hL
    rwa [if_neg ht] at this
  have HB := Lib.hid hw
  clear hw ht
  go_enter Tryz.func114, Tryz.ntmps114
  go_wp2_with (first | ((go_at_call 146); (with_reducible refine (H.out _ ((HB.out.alloc _).alloc _)).mono ?_); rintro e w1 ⟨hbw1, ec, eo, hec, heo, heo2, rfl⟩; obtain ⟨hcw1, hfw1⟩ := bcell hbw1; have hzw1 := hbw1.size; (try simp at hzw1); have hyw1 : w.heap.size < w1.heap.size := (by omega); (try have hyaw1 : w.heap.size + 1 < w1.heap.size := (by omega)); (try have hybw1 : w.heap.size + 2 < w1.heap.size := (by omega)); (try have hycw1 : w.heap.size + 3 < w1.heap.size := (by omega)); (try have hydw1 : w.heap.size + 4 < w1.heap.size := (by omega)); clear hzw1; have K0 := Blk.call ((Blk.new w 91 #[.int .i64 0, .int .i64 0, .bool false, .slice none 0 0, .slice none 0 0]).alloc (.cells #[.int .i64 0, .int .i64 0] 38)) hbw1; have lK0 := K0.lt; have qK0 := K0.q; have rK0 := K0.fz; have K0' := Lib.hid K0; clear K0; have K0 := K0'.out; clear K0'; have K1 := Blk.call (blk_in (t := 38) (cs := #[.int .i64 0, .int .i64 0]) (w := w.alloc (.cells #[.int .i64 0, .int .i64 0, .bool false, .slice none 0 0, .slice none 0 0] 91)) (g := w.heap.size + 1) (by simp)) hbw1; have lK1 := K1.lt; have qK1 := K1.q; have rK1 := K1.fz; have K1' := Lib.hid K1; clear K1; have K1 := K1'.out; clear K1'))
  go_region
  go_wp2
  refine bodyPost_ret (v := .tuple #[.agg #[.int .i64 0, .int .i64 0, .bool false, .slice none 0 0, .slice none 0 0], errV (ec, eo)]) (by simp only [results, Tryz.results114]; go_simp) rfl ?_
  exact ⟨by ((repeat' (first | (with_reducible exact Below.refl _ _) | (with_reducible assumption) | (with_reducible refine Below.setCell ?_ ?_ _) | (with_reducible refine Below.alloc ?_ ?_ _) | (with_reducible refine Below.drew ?_) | (with_reducible refine below_drewN ?_ _) | (with_reducible refine Below.step (by with_reducible assumption) ?_ ?_))) <;> (first | omega | (simp; done) | (simp; omega))), ec, eo, hec, heo, heo2, rfl⟩
end Go.Proofs.YtjjkimjdmpeddaaGreatDoor
end

/- Walks over the references of layer 2: ReadHeader, Next. -/
section
set_option linter.unusedSimpArgs false
set_option linter.unusedVariables false
namespace Go.Proofs.YtjjkimjdmpeddaaGreatDoor
open Go.RowKit Go.Cr

set_option maxRecDepth 100000 in
set_option maxHeartbeats 2000000 in
theorem rReadHdr (v : Value) (l : List UInt8) (w : World) (hw : IsB w v l) : Calls Tryz.prog 177 #[v] w (RetB (rhV (rdHdr l)) w) := by
  have hlen := hw.len ulB
  by_cases hl : l.length = 0
  · have HV : Hid (rhV (rdHdr l) = .tuple #[hdrV Hdr.zero, errV (1, 0)]) := by show rhV (rdHdr l) = _; simp [rdHdr, rhV, hl]
    have hlb : ((l.length : Int) == 0) = true := beq_iff_eq.2 (by omega)
    clear hl
    go_enter Tryz.func177, Tryz.ntmps177
    go_wp2
    refine bodyPost_retB ?_ rfl HV.out.symm ?_
    · simp [results, errV, hdrV, Hdr.zero, Tryz.results177, go_sem]
    · ((repeat' (first | (with_reducible exact Below.refl _ _) | (with_reducible assumption) | (with_reducible refine Below.setCell ?_ ?_ _) | (with_reducible refine Below.alloc ?_ ?_ _) | (with_reducible refine Below.drew ?_) | (with_reducible refine below_drewN ?_ _) | (with_reducible refine Below.step (by with_reducible assumption) ?_ ?_))) <;> (first | omega | (simp; done) | (simp; omega)))
  have hx1 := bat_lt l 0
  have hx0 := bat_pos l 0
  have hlb : ((l.length : Int) == 0) = false := beq_eq_false_iff_ne.2 (by omega)
  obtain ⟨b, o, hix, hbw, hcl⟩ := hw.at_ (P := Tryz.prog) ulB szB .i64 (i := 0) (by omega) (by omega)
  simp only [Int.toNat_zero] at hcl
  by_cases c1 : bat l 0 % 32 = 31
  · have HV : Hid (rhV (rdHdr l) = .tuple #[hdrV Hdr.zero, errV (3, 0)]) := by show rhV (rdHdr l) = _; unfold rdHdr; (repeat (first | rw [if_pos (by omega)] | rw [if_neg (by omega)])); rfl
    have HC := Lib.hid (rReadId_bad (bat l 0) · hx0 hx1 c1)
    clear hw c1
    go_enter Tryz.func177, Tryz.ntmps177
    go_wp2_with (first | (go_at_call 201; refine (HC.out _).mono ?_; rintro e w1 ⟨rfl, rfl⟩))
    refine bodyPost_retB ?_ rfl HV.out.symm ?_
    · simp [results, errV, hdrV, Hdr.zero, Tryz.results177, go_sem]
    · ((repeat' (first | (with_reducible exact Below.refl _ _) | (with_reducible assumption) | (with_reducible refine Below.setCell ?_ ?_ _) | (with_reducible refine Below.alloc ?_ ?_ _) | (with_reducible refine Below.drew ?_) | (with_reducible refine below_drewN ?_ _) | (with_reducible refine Below.step (by with_reducible assumption) ?_ ?_))) <;> (first | omega | (simp; done) | (simp; omega)))
  have HC := Lib.hid (rReadId_good (bat l 0) · hx0 hx1 c1)
  obtain ⟨v1, hcut, hv1⟩ := hw.cutLo (P := Tryz.prog) ulB szB .i64 (lo := 1) (by omega) (by omega)
  have hv1 : IsB w v1 (l.drop 1) := hv1
  cases hr : rdLen (l.drop 1) with
  | error e =>
    obtain ⟨ec, eo⟩ := e
    have hbd := rdLen_err hr
    have HV : Hid (rhV (rdHdr l) = .tuple #[hdrV Hdr.zero, errV (ec, eo + 1)]) := by show rhV (rdHdr l) = _; unfold rdHdr; (repeat (first | rw [if_pos (by omega)] | rw [if_neg (by omega)])); rw [hr]; rfl
    have HR : Hid (∀ W, IsB W v1 (l.drop 1) → Calls Tryz.prog 202 #[v1] W (RetB (.tuple #[.int .i64 0, .int .i64 0, .agg #[.int .i64 ec, .int .i64 eo]]) W)) := by
      intro W h
      have := rReadLen v1 _ W h
      rwa [hr] at this
    simp only [List.length_drop] at hbd
    obtain ⟨hb1, hb2, hb3, hb4⟩ := hbd
    have hb5 : eo + 1 ≤ 9223372036854775807 := by have := hw.maxl; omega
    clear hb4
    have hn : (ec == 0) = false := beq_eq_false_iff_ne.2 (by omega)
    have hn' : (ec != 0) = true := by simp; omega
    have HB := Lib.hid hv1
    clear hw hr c1 hv1
    go_enter Tryz.func177, Tryz.ntmps177
    go_wp2_with (first | (go_at_call 201; refine (HC.out _).mono ?_; rintro e w1 ⟨rfl, rfl⟩) | (go_at_call 202; (with_reducible refine (HR.out _ ((HB.out.alloc _).alloc _)).mono ?_); rintro e w1 ⟨rfl, hbw1⟩; obtain ⟨hcw1, hfw1⟩ := bcell hbw1; have hzw1 := hbw1.size; (try simp at hzw1); have hyw1 : w.heap.size < w1.heap.size := (by omega); (try have hyaw1 : w.heap.size + 1 < w1.heap.size := (by omega)); (try have hybw1 : w.heap.size + 2 < w1.heap.size := (by omega)); (try have hycw1 : w.heap.size + 3 < w1.heap.size := (by omega)); (try have hydw1 : w.heap.size + 4 < w1.heap.size := (by omega)); clear hzw1); have q0w1 := fun o => hcw1 (w.heap.size) o (by simp [go_sem]; try omega); simp [go_sem] at q0w1; have r0w1 := fun o => hfw1 (w.heap.size) o (by simp [go_sem]; try omega); simp [go_sem] at r0w1; have q1w1 := fun o => hcw1 (w.heap.size + 1) o (by simp [go_sem]; try omega); simp [go_sem] at q1w1; have r1w1 := fun o => hfw1 (w.heap.size + 1) o (by simp [go_sem]; try omega); simp [go_sem] at r1w1)
    go_region
    go_wp2
    (refine bodyPost_retB (by (simp only [results, Tryz.results177]; try go_simp)) rfl HV.out.symm ?_; ((repeat' (first | (with_reducible exact Below.refl _ _) | (with_reducible assumption) | (with_reducible refine Below.setCell ?_ ?_ _) | (with_reducible refine Below.alloc ?_ ?_ _) | (with_reducible refine Below.drew ?_) | (with_reducible refine below_drewN ?_ _) | (with_reducible refine Below.step (by with_reducible assumption) ?_ ?_))) <;> (first | omega | (simp; done) | (simp; omega))))
  | ok r =>
    obtain ⟨n, k⟩ := r
    have hbd := rdLen_ok hr
    have HV : Hid (rhV (rdHdr l) = .tuple #[hdrV ⟨bat l 0 / 64, bat l 0 % 32, decide (bat l 0 / 32 % 2 = 1), n, 1 + k⟩, errV (0, 0)]) := by show rhV (rdHdr l) = _; unfold rdHdr; (repeat (first | rw [if_pos (by omega)] | rw [if_neg (by omega)])); rw [hr]; rfl
    have HR : Hid (∀ W, IsB W v1 (l.drop 1) → Calls Tryz.prog 202 #[v1] W (RetB (.tuple #[.int .i64 n, .int .i64 k, .agg #[.int .i64 0, .int .i64 0]]) W)) := by
      intro W h
      have := rReadLen v1 _ W h
      rwa [hr] at this
    obtain ⟨hb1, hb2, hb3, hb4, hb5⟩ := hbd
    have HB := Lib.hid hv1
    clear hw hr c1 hv1
    go_enter Tryz.func177, Tryz.ntmps177
    go_wp2_with (first | (go_at_call 201; refine (HC.out _).mono ?_; rintro e w1 ⟨rfl, rfl⟩) | (go_at_call 202; (with_reducible refine (HR.out _ ((HB.out.alloc _).alloc _)).mono ?_); rintro e w1 ⟨rfl, hbw1⟩; obtain ⟨hcw1, hfw1⟩ := bcell hbw1; have hzw1 := hbw1.size; (try simp at hzw1); have hyw1 : w.heap.size < w1.heap.size := (by omega); (try have hyaw1 : w.heap.size + 1 < w1.heap.size := (by omega)); (try have hybw1 : w.heap.size + 2 < w1.heap.size := (by omega)); (try have hycw1 : w.heap.size + 3 < w1.heap.size := (by omega)); (try have hydw1 : w.heap.size + 4 < w1.heap.size := (by omega)); clear hzw1); have q0w1 := fun o => hcw1 (w.heap.size) o (by simp [go_sem]; try omega); simp [go_sem] at q0w1; have r0w1 := fun o => hfw1 (w.heap.size) o (by simp [go_sem]; try omega); simp [go_sem] at r0w1; have q1w1 := fun o => hcw1 (w.heap.size + 1) o (by simp [go_sem]; try omega); simp [go_sem] at q1w1; have r1w1 := fun o => hfw1 (w.heap.size + 1) o (by simp [go_sem]; try omega); simp [go_sem] at r1w1)
    (refine bodyPost_retB (by (simp only [results, Tryz.results177]; try go_simp)) rfl HV.out.symm ?_; ((repeat' (first | (with_reducible exact Below.refl _ _) | (with_reducible assumption) | (with_reducible refine Below.setCell ?_ ?_ _) | (with_reducible refine Below.alloc ?_ ?_ _) | (with_reducible refine Below.drew ?_) | (with_reducible refine below_drewN ?_ _) | (with_reducible refine Below.step (by with_reducible assumption) ?_ ?_))) <;> (first | omega | (simp; done) | (simp; omega))))

/-- What Next leaves where there is an element. -/
def RetN (h : Hdr) (l : List UInt8) (w : World) (e : Ending) (w' : World) : Prop :=
  ∃ c r, e = .returned (.tuple #[hdrV h, c, r, errV (0, 0)]) ∧ IsB w' c (seg l h.size (h.size + h.len)) ∧ IsB w' r (l.drop (h.size + h.len).toNat) ∧ Below w.heap.size w w'

set_option maxRecDepth 100000 in
set_option maxHeartbeats 2000000 in
theorem rNext_hdr (v : Value) (l : List UInt8) (w : World) (hw : IsB w v l) (ec eo : Int) (hr : rdHdr l = .error (ec, eo)) :
    Calls Tryz.prog 160 #[v] w (RetB (.tuple #[hdrV Hdr.zero, .slice none 0 0, .slice none 0 0, errV (ec, eo)]) w) := by
  have hbd := rdHdr_err hr
  have HR : Hid (∀ W, IsB W v l → Calls Tryz.prog 177 #[v] W (RetB (.tuple #[hdrV Hdr.zero, errV (ec, eo)]) W)) := by
    intro W h
    have := rReadHdr v _ W h
    rwa [hr] at this
  have HB := Lib.hid hw
  obtain ⟨hb1, hb2, hb3, hb4⟩ := hbd
  have hn' : (ec != 0) = true := by simp; omega
  clear hw hr hb4
  simp only [hdrV, errV, Hdr.zero] at HR
  go_enter Tryz.func160, Tryz.ntmps160
  go_wp2_with (first | (go_at_call 177; (with_reducible refine (HR.out _ ((HB.out.alloc _).alloc _)).mono ?_); rintro e w1 ⟨rfl, hbw1⟩; obtain ⟨hcw1, hfw1⟩ := bcell hbw1; have hzw1 := hbw1.size; (try simp at hzw1); have hyw1 : w.heap.size < w1.heap.size := (by omega); (try have hyaw1 : w.heap.size + 1 < w1.heap.size := (by omega)); (try have hybw1 : w.heap.size + 2 < w1.heap.size := (by omega)); (try have hycw1 : w.heap.size + 3 < w1.heap.size := (by omega)); (try have hydw1 : w.heap.size + 4 < w1.heap.size := (by omega)); clear hzw1); have K1 := Blk.call ((Blk.new w 200 #[.int .i64 0, .int .i64 0, .bool false, .int .i64 0, .int .i64 0]).alloc _) hbw1; have lK1 := K1.lt; have qK1 := K1.q; have rK1 := K1.fz; have K1' := Lib.hid K1; clear K1; have K1 := K1'.out; clear K1'; have K2 := Blk.call (Blk.new (w.alloc _) 38 #[.int .i64 0, .int .i64 0]) hbw1; have lK2 := K2.lt; have qK2 := K2.q; have rK2 := K2.fz; have K2' := Lib.hid K2; clear K2; have K2 := K2'.out; clear K2')
  go_region
  go_wp2
  (refine bodyPost_retB (v := .tuple #[hdrV Hdr.zero, .slice none 0 0, .slice none 0 0, errV (ec, eo)]) (by (simp only [results, Tryz.results160]; try go_simp)) rfl rfl ?_; ((repeat' (first | (with_reducible exact Below.refl _ _) | (with_reducible assumption) | (with_reducible refine Below.setCell ?_ ?_ _) | (with_reducible refine Below.alloc ?_ ?_ _) | (with_reducible refine Below.drew ?_) | (with_reducible refine below_drewN ?_ _) | (with_reducible refine Below.step (by with_reducible assumption) ?_ ?_))) <;> (first | omega | (simp; done) | (simp; omega))))
end Go.Proofs.YtjjkimjdmpeddaaGreatDoor
end

/- Walk over the reference of layer 2: Next, beyond its header. -/
section
set_option linter.unusedSimpArgs false
set_option linter.unusedVariables false
namespace Go.Proofs.YtjjkimjdmpeddaaGreatDoor
open Go.RowKit Go.Cr

set_option maxRecDepth 100000 in
set_option maxHeartbeats 2000000 in
theorem rNext_short (v : Value) (l : List UInt8) (w : World) (hw : IsB w v l) (h : Hdr) (hr : rdHdr l = .ok h) (hs : (l.length : Int) - h.size < h.len) :
    Calls Tryz.prog 160 #[v] w (RetB (.tuple #[hdrV Hdr.zero, .slice none 0 0, .slice none 0 0, errV (1, l.length)]) w) := by
  obtain ⟨hc, hnm, hcn, hln, hsz⟩ := h
  have hbd := rdHdr_ok hr
  have HR : Hid (∀ W, IsB W v l → Calls Tryz.prog 177 #[v] W (RetB (.tuple #[hdrV ⟨hc, hnm, hcn, hln, hsz⟩, errV (0, 0)]) W)) := by
    intro W h
    have := rReadHdr v _ W h
    rwa [hr] at this
  have hlen := hw.len ulB
  have hmx := hw.maxl
  have HB := Lib.hid hw
  simp only at hbd hs
  obtain ⟨hb1, hb2, hb3, hb4, hb5, _⟩ := hbd
  clear hw hr
  simp only [hdrV, errV] at HR
  go_enter Tryz.func160, Tryz.ntmps160
  go_wp2_with (first | (go_at_call 177; (with_reducible refine (HR.out _ ((HB.out.alloc _).alloc _)).mono ?_); rintro e w1 ⟨rfl, hbw1⟩; obtain ⟨hcw1, hfw1⟩ := bcell hbw1; have hzw1 := hbw1.size; (try simp at hzw1); have hyw1 : w.heap.size < w1.heap.size := (by omega); (try have hyaw1 : w.heap.size + 1 < w1.heap.size := (by omega)); (try have hybw1 : w.heap.size + 2 < w1.heap.size := (by omega)); (try have hycw1 : w.heap.size + 3 < w1.heap.size := (by omega)); (try have hydw1 : w.heap.size + 4 < w1.heap.size := (by omega)); clear hzw1); have K1 := Blk.call ((Blk.new w 200 #[.int .i64 0, .int .i64 0, .bool false, .int .i64 0, .int .i64 0]).alloc _) hbw1; have lK1 := K1.lt; have qK1 := K1.q; have rK1 := K1.fz; have K1' := Lib.hid K1; clear K1; have K1 := K1'.out; clear K1'; have K2 := Blk.call (Blk.new (w.alloc _) 38 #[.int .i64 0, .int .i64 0]) hbw1; have lK2 := K2.lt; have qK2 := K2.q; have rK2 := K2.fz; have K2' := Lib.hid K2; clear K2; have K2 := K2'.out; clear K2')
  (refine bodyPost_retB (v := .tuple #[hdrV Hdr.zero, .slice none 0 0, .slice none 0 0, errV (1, l.length)]) (by (simp only [results, Tryz.results160]; try go_simp)) rfl rfl ?_; ((repeat' (first | (with_reducible exact Below.refl _ _) | (with_reducible assumption) | (with_reducible refine Below.setCell ?_ ?_ _) | (with_reducible refine Below.alloc ?_ ?_ _) | (with_reducible refine Below.drew ?_) | (with_reducible refine below_drewN ?_ _) | (with_reducible refine Below.step (by with_reducible assumption) ?_ ?_))) <;> (first | omega | (simp; done) | (simp; omega))))

set_option maxRecDepth 100000 in
set_option maxHeartbeats 4000000 in
theorem rNext_ok (v : Value) (l : List UInt8) (w : World) (hw : IsB w v l) (h : Hdr) (hr : rdHdr l = .ok h) (hs : h.len ≤ (l.length : Int) - h.size) :
    Calls Tryz.prog 160 #[v] w (RetN h l w) := by
  obtain ⟨hc, hnm, hcn, hln, hsz⟩ := h
  have hbd := rdHdr_ok hr
  have HR : Hid (∀ W, IsB W v l → Calls Tryz.prog 177 #[v] W (RetB (.tuple #[hdrV ⟨hc, hnm, hcn, hln, hsz⟩, errV (0, 0)]) W)) := by
    intro W h
    have := rReadHdr v _ W h
    rwa [hr] at this
  have hlen := hw.len ulB
  have hmx := hw.maxl
  have HB := Lib.hid hw
  simp only at hbd hs
  obtain ⟨hb1, hb2, hb3, hb4, hb5, _⟩ := hbd
  obtain ⟨v1, hcut1, hv1⟩ := hw.cut (P := Tryz.prog) ulB szB .i64 .i64 (lo := hsz) (hi := hsz + hln) (by omega) (by omega) (by omega)
  obtain ⟨v2, hcut2, hv2⟩ := hw.cutLo (P := Tryz.prog) ulB szB .i64 (lo := hsz + hln) (by omega) (by omega)
  have hwr : IntKind.i64.wrap (hsz + hln) = hsz + hln := IntWalk.i64_in _ (by omega)
  have H1 : Hid (IsB w v1 (seg l hsz (hsz + hln))) := hv1
  have H2 : Hid (IsB w v2 (l.drop (hsz + hln).toNat)) := hv2
  clear hw hr hv1 hv2
  simp only [hdrV, errV] at HR
  go_enter Tryz.func160, Tryz.ntmps160
  go_wp2_with (first | (go_at_call 177; (with_reducible refine (HR.out _ ((HB.out.alloc _).alloc _)).mono ?_); rintro e w1 ⟨rfl, hbw1⟩; obtain ⟨hcw1, hfw1⟩ := bcell hbw1; have hzw1 := hbw1.size; (try simp at hzw1); have hyw1 : w.heap.size < w1.heap.size := (by omega); (try have hyaw1 : w.heap.size + 1 < w1.heap.size := (by omega)); (try have hybw1 : w.heap.size + 2 < w1.heap.size := (by omega)); (try have hycw1 : w.heap.size + 3 < w1.heap.size := (by omega)); (try have hydw1 : w.heap.size + 4 < w1.heap.size := (by omega)); clear hzw1); have K1 := Blk.call ((Blk.new w 200 #[.int .i64 0, .int .i64 0, .bool false, .int .i64 0, .int .i64 0]).alloc _) hbw1; have lK1 := K1.lt; have qK1 := K1.q; have rK1 := K1.fz; have K1' := Lib.hid K1; clear K1; have K1 := K1'.out; clear K1'; have K2 := Blk.call (Blk.new (w.alloc _) 38 #[.int .i64 0, .int .i64 0]) hbw1; have lK2 := K2.lt; have qK2 := K2.q; have rK2 := K2.fz; have K2' := Lib.hid K2; clear K2; have K2 := K2'.out; clear K2')
  go_region
  go_wp2
  refine bodyPost_ret (v := .tuple #[hdrV ⟨hc, hnm, hcn, hln, hsz⟩, v1, v2, errV (0, 0)]) (by (simp only [results, Tryz.results160]; try go_simp)) rfl ?_
  have hB : ∀ W, Below w.heap.size w W → RetN ⟨hc, hnm, hcn, hln, hsz⟩ l w (.returned (.tuple #[hdrV ⟨hc, hnm, hcn, hln, hsz⟩, v1, v2, errV (0, 0)])) W :=
    fun W h => ⟨v1, v2, rfl, H1.out.below h, H2.out.below h, h⟩
  refine hB _ ?_
  ((repeat' (first | (with_reducible exact Below.refl _ _) | (with_reducible assumption) | (with_reducible refine Below.setCell ?_ ?_ _) | (with_reducible refine Below.alloc ?_ ?_ _) | (with_reducible refine Below.drew ?_) | (with_reducible refine below_drewN ?_ _) | (with_reducible refine Below.step (by with_reducible assumption) ?_ ?_))) <;> (first | omega | (simp; done) | (simp; omega)))
end Go.Proofs.YtjjkimjdmpeddaaGreatDoor
end
