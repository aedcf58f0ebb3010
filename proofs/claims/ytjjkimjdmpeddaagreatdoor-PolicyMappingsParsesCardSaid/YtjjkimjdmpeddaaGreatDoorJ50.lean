/- The parts RefK of one proof, one behind the other. -/
import Derived.Test.YtjjkimjdmpeddaaGreatDoorJ49
import Derived.Test.YtjjkimjdmpeddaaGreatDoorJ35

/- Walks over the reference's ReadMappings and ParseMappings. -/
section
set_option linter.unusedSimpArgs false
set_option linter.unusedVariables false
namespace Go.Proofs.YtjjkimjdmpeddaaGreatDoor
open Go.RowKit Go.Cr

theorem rdObj_len (k : List UInt8) : (rdObj k).length ≤ 21 * (k.length + 1) := by
  unfold rdObj
  have hc := kidC_len k
  cases h : oidD (kidC k) with
  | none => simp
  | some s => have := oidD_len h; simp only [Option.getD_some]; omega
def RrM (ks : List (List UInt8)) (w : World) (out ix : Value) (wr : World) : Prop := ∃ i : Nat, ix = .int .i64 (i : Int) ∧ i ≤ ks.length ∧ OwL repT (fun _ => True) wr w.heap.size 68 out ((ks.take i).map rdM) ∧ Below w.heap.size w wr
def RetRM (ms : List Mp) (w : World) (e : Ending) (w' : World) : Prop := ∃ A k, e = .returned (.slice A ms.length k) ∧ OwL repT (fun _ => True) w' w.heap.size 68 (.slice A ms.length k) ms ∧ Below w.heap.size w w'
set_option maxRecDepth 100000 in
set_option maxHeartbeats 8000000 in
theorem rReadM (nv : Value) (l : List UInt8) (w : World) (hn : NdV 60 w nv l) (hL : l.length ≤ 4000) : Calls Tryz.prog 76 #[nv] w (RetRM ((kidsT 59 l).map rdM) w) := by
  obtain ⟨c1, c2, c3, a4, a5, n4, k4, k5, rfl, ⟨xs, hrow⟩, hk⟩ := hn.row
  have hfl : ∀ i, ((kidsT 59 l).getD i []).length ≤ 4000 := fun i => by
    obtain ⟨_, _, _, _, _, _, _, _, _, _, _, _, _, _, _, _, hf⟩ := hn.open_
    have := getD_len (kidsT 59 l) i
    omega
  have hlen := hrow.len (P := Tryz.prog) ulNodes
  have hcl : (kidsT 59 l).length ≤ 4000 := by
    have := hrow.maxl
    obtain ⟨_, _, _, _, _, _, _, _, _, _, _, _, _, _, _, hkn, hf⟩ := hn.open_
    have h2 : ∀ (ks : List (List UInt8)), (∀ p ∈ ks, 1 ≤ p.length) → ks.length ≤ ks.flatten.length := fun ks => by
      induction ks with
      | nil => simp
      | cons x t ih => intro h; have h0 := h x (by simp); have h1 := ih fun p hp => h p (by simp [hp]); simp only [List.length_cons, List.flatten_cons, List.length_append]; omega
    have h3 := h2 (kidsT 59 l) fun p hp => by
      obtain ⟨j, hj, rfl⟩ := List.mem_iff_getElem.1 hp
      have ht := (hkn j hj).tree
      obtain ⟨x, hx⟩ := treeOK_one ht
      have := one_two hx
      omega
    omega
  have HK := Lib.hid hk
  have HFL := Lib.hid hfl
  clear hk hfl hn hrow hL
  generalize kidsT 59 l = ks at *
  have hnI : (ks.length : Int) ≤ 4000 := by omega
  go_enter Tryz.func76, Tryz.ntmps76
  go_wp2_with fail
  have HB0 := Lib.hid (Blk.new w 91 #[.int .i64 c1, .int .i64 c2, .bool c3, .slice a4 n4 k4, .slice a5 ks.length k5])
  have HW0 := Lib.hid ((Below.refl w.heap.size w).alloc (Nat.le_refl _) (.cells #[.int .i64 c1, .int .i64 c2, .bool c3, .slice a4 n4 k4, .slice a5 ks.length k5] 91))
  have lW0 := HB0.out.lt
  generalize w.alloc (.cells #[.int .i64 c1, .int .i64 c2, .bool c3, .slice a4 n4 k4, .slice a5 ks.length k5] 91) = w0 at *
  obtain ⟨i0, hi0, hz0, hz1, hz2⟩ := info_parts infoMp
  go_loopw [3, 4] (fun out ix wr => RrM ks w0 out ix wr) (fun _ ix _ => ks.length + 1 - (intOf ix).toNat)
  case atStart => exact ⟨0, rfl, Nat.zero_le _, OwL.nil_ _ _ _ _, Below.refl _ _⟩
  case round =>
    obtain ⟨i, rfl, hi, how, hbel⟩ := hrel
    have HOW := Lib.hid how
    have HBR := Lib.hid hbel
    have hszr := hbel.size
    have JB := HB0.out.below hbel lW0
    have qJ := JB.q
    have lJ := JB.lt
    clear how JB
    by_cases hlt : i < ks.length
    · obtain ⟨b, o, x1, x2, x3, y4, y5, m4, z4, m5, z5, hi2, hl2, d0, d1, d2, d3, d4, hkv⟩ := HK.out i hlt
      have hwr : Below w.heap.size w wr := HW0.out.trans (hbel.mono (Nat.le_of_lt lW0))
      have hlk : ks[i].length ≤ 4000 := by have := HFL.out i; rwa [show ks.getD i [] = ks[i] by simp [hlt]] at this
      obtain ⟨n0, hn0, hk0⟩ := rKid (hkv.below hwr) 0
      obtain ⟨n1, hn1, hk1⟩ := rKid (hkv.below hwr) 1
      have hl0 : ∀ j, ((kidsT 58 ks[i]).getD j []).length ≤ 4000 := fun j => by
        obtain ⟨_, _, _, _, _, _, _, _, _, _, _, _, _, _, _, _, hf⟩ := hkv.open_
        have := getD_len (kidsT 58 ks[i]) j
        omega
      have HR0 := Lib.hid (rRdObj hn0 (hl0 0))
      have HR1 := Lib.hid (rRdObj hn1 (hl0 1))
      have htk : (ks.take (i + 1)).map rdM = (ks.take i).map rdM ++ [rdM ks[i]] := by rw [List.take_succ_eq_append_getElem hlt, List.map_append]; rfl
      have hrd : rdM ks[i] = (bStr (rdObj ((kidsT 58 ks[i]).getD 0 [])), bStr (rdObj ((kidsT 58 ks[i]).getD 1 []))) := rfl
      rw [hrd] at htk
      generalize bStr (rdObj ((kidsT 58 ks[i]).getD 0 [])) = s0 at *
      generalize bStr (rdObj ((kidsT 58 ks[i]).getD 1 [])) = s1 at *
      have HK0 : Hid (∀ W, Below wr.heap.size wr W → Calls Tryz.prog 102 #[.agg #[.int .i64 x1, .int .i64 x2, .bool x3, .slice y4 m4 z4, .slice y5 m5 z5], .int .i64 0] W (RetB n0 W)) := hk0
      have HK1 : Hid (∀ W, Below wr.heap.size wr W → Calls Tryz.prog 102 #[.agg #[.int .i64 x1, .int .i64 x2, .bool x3, .slice y4 m4 z4, .slice y5 m5 z5], .int .i64 1] W (RetB n1 W)) := hk1
      have HTK := Lib.hid htk
      have hltI : (i : Int) < ks.length := by omega
      have hll : ((ks.take i).map rdM).length ≤ 4000 := by rw [List.length_map, List.length_take]; omega
      have HLL := Lib.hid hll
      have HSS : Hid (∀ W, Below w0.heap.size w0 W → W.cell? ⟨w.heap.size, 4, none⟩ = some (.slice a5 ks.length k5) ∧ W.cell? ⟨b, o, none⟩ = some (.int .i64 x1) ∧ W.cell? ⟨b, o + 1, none⟩ = some (.int .i64 x2) ∧ W.cell? ⟨b, o + 2, none⟩ = some (.bool x3) ∧ W.cell? ⟨b, o + 3, none⟩ = some (.slice y4 m4 z4) ∧ W.cell? ⟨b, o + 4, none⟩ = some (.slice y5 m5 z5)) := fun W hW => by
        have hb : Below w.heap.size w W := HW0.out.trans (hW.mono (Nat.le_of_lt lW0))
        exact ⟨((HB0.out.below hW lW0).q 4).trans rfl, (hb.cell (p := ⟨b, o, none⟩) hl2).trans d0, (hb.cell (p := ⟨b, o + 1, none⟩) hl2).trans d1, (hb.cell (p := ⟨b, o + 2, none⟩) hl2).trans d2, (hb.cell (p := ⟨b, o + 3, none⟩) hl2).trans d3, (hb.cell (p := ⟨b, o + 4, none⟩) hl2).trans d4⟩
      obtain ⟨g0, g1, g2, g3, g4, g5⟩ := HSS.out wr hbel
      have hlb : b < wr.heap.size := Nat.lt_of_lt_of_le hl2 hwr.size
      obtain ⟨u1, u2, u3, u4, u5, u6, u7, u8, u9, hsh0⟩ := hn0.shape
      obtain ⟨v1, v2, v3, v4, v5, v6, v7, v8, v9, hsh1⟩ := hn1.shape
      subst hsh0 hsh1
      clear hk0 hk1 hn0 hn1 hkv d0 d1 d2 d3 d4 hbel htk hrd hll hl0 hlk hwr
      generalize (ks.take i).map rdM = LL at *
      go_wp2_with fail
      have hcur := Lib.hid ((Below.refl wr.heap.size wr).drew)
      go_region_held3 (fun W' => W'.cell? ⟨w.heap.size, 4, none⟩ = some (.slice a5 ks.length k5) ∧ W'.cell? ⟨b, o, none⟩ = some (.int .i64 x1) ∧ W'.cell? ⟨b, o + 1, none⟩ = some (.int .i64 x2) ∧ W'.cell? ⟨b, o + 2, none⟩ = some (.bool x3) ∧ W'.cell? ⟨b, o + 3, none⟩ = some (.slice y4 m4 z4) ∧ W'.cell? ⟨b, o + 4, none⟩ = some (.slice y5 m5 z5))
        (first | go_keep | exact HSS.out _ HBD.out | exact HSS.out _ (HBR.out.trans (hcur.out.mono hszr)) | exact HSS.out _ (HBR.out.trans ((hcur.out.alloc hcur.out.size _).mono hszr)))
        (first
          | ((go_at_call 102); (with_reducible refine (HK0.out _ hcur.out).mono ?_); rintro e wz ⟨rfl, hbz⟩; have hcur := Lib.hid (hcur.out.trans (hbz.mono hcur.out.size)))
          | ((go_at_call 102); (with_reducible refine (HK1.out _ hcur.out).mono ?_); rintro e wz ⟨rfl, hbz⟩; have hcur := Lib.hid (hcur.out.trans (hbz.mono hcur.out.size)))
          | ((go_at_call 112); (with_reducible refine (HR0.out _ hcur.out).mono ?_); rintro e wz ⟨rfl, hbz⟩; have hcur := Lib.hid (hcur.out.trans (hbz.mono hcur.out.size)))
          | ((go_at_call 112); (with_reducible refine (HR1.out _ hcur.out).mono ?_); rintro e wz ⟨rfl, hbz⟩; have hcur := Lib.hid (hcur.out.trans (hbz.mono hcur.out.size)))
          | (rw [if_pos (by rfl)]; obtain ⟨vd, wd, hrd, hod, hbd, hgd, _⟩ := run_appL (r := repT) (X := fun _ => True) (P := Tryz.prog) (wz.alloc (.cells #[.string s0, .string s1] 68)) w0.heap.size 48 48 68 ulMsP hi0 hz0 hz1 hz2 rfl (by decide) _ LL (HOW.out.below (hcur.out.alloc hcur.out.size _)) _ [.string s0, .string s1] (s0, s1) (isR_at rfl rfl) rfl (by have := HLL.out; omega) (by have := hcur.out.size; simp; omega) trivial; have HOD := Lib.hid hod; have HBD := Lib.hid ((HBR.out.trans ((hcur.out.alloc hcur.out.size (.cells #[.string s0, .string s1] 68)).mono hszr)).trans hbd); refine wp_appR _ _ _ _ rfl _ _ _ _ rfl rfl hrd ?_))
      all_goals
        go_wp2_with fail
        go_roundw
        case rel => exact ⟨i + 1, by go_num, by omega, by rw [HTK.out]; exact HOD.out, HBD.out⟩
        case measure => simp [intOf]; omega
    · have hie : i = ks.length := by omega
      have how := HOW.out
      rw [hie, List.take_length] at how
      have HO := Lib.hid how
      have hge : (ks.length : Int) ≤ i := by omega
      obtain ⟨Ao, ko, hoe⟩ := how.slice
      rw [List.length_map] at hoe
      subst hoe
      clear how hie hlt hi hbel
      go_wp2_with fail
      go_ret
      have s0 := HW0.out.size
      refine ⟨Ao, ko, (by rw [List.length_map]; first | rfl | simp), ?_, HW0.out.trans (HBR.out.mono s0)⟩
      rw [List.length_map]
      exact HO.out.more s0

/-- What the reference's Parse leaves. -/
def RetRP (r : Option (List Mp)) (w : World) (e : Ending) (w' : World) : Prop := Below w.heap.size w w' ∧ match r with
  | none => e = .returned (.tuple #[.slice none 0 0, .bool false])
  | some ms => ∃ A k, e = .returned (.tuple #[.slice A ms.length k, .bool true]) ∧ IsMs w' (.slice A ms.length k) ms
theorem szM_rd (b : List UInt8) (hL : b.length ≤ 4000) : SzM (rdMs b) := by
  have hk := kidsA_cnt b
  refine ⟨by unfold rdMs; rw [List.length_map]; omega, fun m hm => ?_⟩
  obtain ⟨x, hx, rfl⟩ := List.mem_map.1 hm
  have h1 := mem_flat_len hx
  have h3 := rdObj_len ((kidsT 58 x).getD 0 [])
  have h4 := rdObj_len ((kidsT 58 x).getD 1 [])
  have h5 := getD_len (kidsT 58 x) 0
  have h6 := getD_len (kidsT 58 x) 1
  have h7 := kidsT_cnt 58 x
  have e0 : ∀ s : List UInt8, (bStr s).size = s.length := fun s => by show s.toArray.size = _; simp
  unfold rdM
  simp only [e0]
  omega
theorem parM_le (m : Mp) : (parM m).length ≤ m.1.size + m.2.size + 30 := by
  have h1 := seqB_le [objB m.1.data.toList, objB m.2.data.toList]
  have h2 := objB_le m.1.data.toList
  have h3 := objB_le m.2.data.toList
  have e1 : m.1.data.toList.length = m.1.size := rfl
  have e2 : m.2.data.toList.length = m.2.size := rfl
  have e : parM m = seqB [objB m.1.data.toList, objB m.2.data.toList] := rfl
  rw [e]
  simp only [List.flatten_cons, List.flatten_nil, List.append_nil, List.length_append] at h1
  omega
theorem flat_le (f : List UInt8 → List UInt8) (a c : Nat) (ks : List (List UInt8)) (h : ∀ x ∈ ks, (f x).length ≤ a * x.length + c) : (ks.map f).flatten.length ≤ a * ks.flatten.length + c * ks.length := by
  induction ks with
  | nil => simp
  | cons x t ih =>
    have h0 := h x (by simp)
    have h1 := ih fun p hp => h p (by simp [hp])
    simp only [List.map_cons, List.flatten_cons, List.length_append, List.length_cons, Nat.mul_add] at h0 h1 ⊢
    omega
theorem rdM_flat (b : List UInt8) (hL : b.length ≤ 4000) : ((rdMs b).map parM).flatten.length ≤ 900000 := by
  have hk := kidsA_cnt b
  have h := flat_le (parM ∘ rdM) 21 72 (kidsA b) fun x hx => by
    have h1 := parM_le (rdM x)
    have h3 := rdObj_len ((kidsT 58 x).getD 0 [])
    have h4 := rdObj_len ((kidsT 58 x).getD 1 [])
    have h7 := kidsT_cnt 58 x
    have h8 : ((kidsT 58 x).getD 0 []).length + ((kidsT 58 x).getD 1 []).length ≤ (kidsT 58 x).flatten.length := by
      match kidsT 58 x with
      | [] => simp
      | [a] => simp
      | a :: b :: t => simp
    have e0 : ∀ s : List UInt8, (bStr s).size = s.length := fun s => by show s.toArray.size = _; simp
    have e1 : (rdM x).1.size = (rdObj ((kidsT 58 x).getD 0 [])).length := e0 _
    have e2 : (rdM x).2.size = (rdObj ((kidsT 58 x).getD 1 [])).length := e0 _
    simp only [Function.comp_apply]
    omega
  unfold rdMs
  rw [List.map_map]
  omega
/-- Deep, then what is read of it. -/
def RetDM (ms : List Mp) (w : World) (e : Ending) (w' : World) : Prop := Below w.heap.size w w' ∧ ∃ (c1 c2 : Int) (c3 : Bool) (a4 a5 : Option Addr) (n4 k4 n5 k5 : Nat) (t : Bool),
  e = .returned (.tuple #[.agg #[.int .i64 c1, .int .i64 c2, .bool c3, .slice a4 n4 k4, .slice a5 n5 k5], .bool t]) ∧
    ∀ W, Below w'.heap.size w' W → Calls Tryz.prog 76 #[.agg #[.int .i64 c1, .int .i64 c2, .bool c3, .slice a4 n4 k4, .slice a5 n5 k5]] W (RetRM ms W)
theorem rDeepM (v : Value) (b : List UInt8) (w : World) (hv : IsB w v b) (hL : b.length ≤ 4000) : Calls Tryz.prog 64 #[v] w (RetDM (rdMs b) w) := by
  refine (rDeepV v b w hv (by omega)).mono fun e w' ⟨nv, t, he, hn, hb⟩ => ?_
  obtain ⟨c1, c2, c3, a4, a5, n4, k4, n5, k5, hs⟩ := hn.shape
  subst hs
  refine ⟨hb, c1, c2, c3, a4, a5, n4, k4, n5, k5, t, he, fun W hW => ?_⟩
  have := rReadM _ _ W (hn.below hW) (by split; exact hL; simp)
  rw [kidsA_eq] at this
  exact this
set_option maxRecDepth 100000 in
set_option maxHeartbeats 8000000 in
theorem rParM (v : Value) (b : List UInt8) (w : World) (hv : IsB w v b) (hL : b.length ≤ 4000) : Calls Tryz.prog 35 #[v] w (RetRP (rparMs b) w) := by
  have HD := Lib.hid (fun W (h : IsB W v b) => rDeepM v b W h hL)
  have HV := Lib.hid hv
  have hz := szM_rd b hL
  have hp : rparMs b = if marM (rdMs b) = some b then some (rdMs b) else none := rfl
  rw [hp]
  have HBy := Lib.hid (fun W u x (h : IsB W u x) (h2 : IsB W v b) => bytes_any u v x b W h h2)
  have hfl := rdM_flat b hL
  generalize rdMs b = ms at *
  cases ho : okM ms with
  | false =>
    have hm : marM ms = none := by unfold marM; simp [ho]
    rw [hm, if_neg (by simp)]
    have HM : Hid (∀ W u, IsMs W u ms → Calls Tryz.prog 30 #[u] W (RetB (.tuple #[.slice none 0 0, .int .i64 8]) W)) := fun W u h => rMarM_no u ms W h hz ho
    obtain ⟨A, k, rfl⟩ := isB_slice hv
    clear hv hL hz hp hm ho hfl HBy
    go_enter Tryz.func35, Tryz.ntmps35
    go_wp2_with (first | ((go_at_call 64); (with_reducible refine (HD.out _ HV.out).mono ?_); rintro e w1 ⟨hbw1, c1, c2, c3, a4, a5, n4, k4, n5, k5, t, rfl, hrd⟩; have HRD := Lib.hid hrd; have HB1 := Lib.hid hbw1; clear hrd hbw1) | ((go_at_call 76); (with_reducible refine (HRD.out _ ((Below.refl _ w1).alloc (Nat.le_refl _) _)).mono ?_); rintro e w2 ⟨A2, k2, rfl, ho2, hbw2⟩; have HB2 := Lib.hid ((HB1.out.alloc HB1.out.size _).trans (hbw2.mono (by have := HB1.out.size; simp; omega))); have HO2 := Lib.hid (isMs_of ho2.isL); clear ho2 hbw2) | ((go_at_call 30); (with_reducible refine (HM.out _ _ HO2.out).mono ?_); rintro e w3 ⟨rfl, hbw3⟩; have HB3 := Lib.hid (HB2.out.trans (hbw3.mono HB2.out.size)); clear hbw3))
    go_ret2
    exact ⟨HB3.out, rfl⟩
  | true =>
    have hm : marM ms = some (seqL (ms.map parM)) := by unfold marM; simp [ho]
    rw [hm]
    have HM : Hid (∀ W u, IsMs W u ms → Calls Tryz.prog 30 #[u] W (RetOidY (seqL (ms.map parM)) W)) := fun W u h => rMarM_yes u ms W h hz hfl ho
    generalize seqL (ms.map parM) = c at *
    by_cases hcb : c = b
    · rw [if_pos (by rw [hcb])]
      have HBt : Hid (∀ W u, IsB W u c → IsB W v b → Calls Tryz.prog 21 #[u, v] W (RetB (.bool true) W)) := fun W u h h2 => by
        have := HBy.out W u c h h2
        rwa [decide_eq_true hcb] at this
      obtain ⟨A, k, rfl⟩ := isB_slice hv
      clear hv hL hz hp hm ho hfl HBy hcb
      go_enter Tryz.func35, Tryz.ntmps35
      go_wp2_with (first | ((go_at_call 64); (with_reducible refine (HD.out _ HV.out).mono ?_); rintro e w1 ⟨hbw1, c1, c2, c3, a4, a5, n4, k4, n5, k5, t, rfl, hrd⟩; have HRD := Lib.hid hrd; have HB1 := Lib.hid hbw1; clear hrd hbw1) | ((go_at_call 76); (with_reducible refine (HRD.out _ ((Below.refl _ w1).alloc (Nat.le_refl _) _)).mono ?_); rintro e w2 ⟨A2, k2, rfl, ho2, hbw2⟩; have HB2 := Lib.hid ((HB1.out.alloc HB1.out.size _).trans (hbw2.mono (by have := HB1.out.size; simp; omega))); have HO2 := Lib.hid (isMs_of ho2.isL); clear ho2 hbw2) | ((go_at_call 30); (with_reducible refine (HM.out _ _ HO2.out).mono ?_); rintro e w3 ⟨v3, rfl, ho3, hbw3⟩; obtain ⟨A3, k3, rfl⟩ := isB_slice ho3.isB; have HB3 := Lib.hid (HB2.out.trans (hbw3.mono HB2.out.size)); have HV3 := Lib.hid ho3.isB; have HO3 := Lib.hid (HO2.out.below hbw3); clear hbw3 ho3) | ((go_at_call 21); (with_reducible refine (HBt.out _ _ HV3.out (HV.out.below HB3.out)).mono ?_); rintro e w4 ⟨rfl, hbw4⟩; have HB4 := Lib.hid (HB3.out.trans (hbw4.mono HB3.out.size)); have HO4 := Lib.hid (HO3.out.below hbw4); clear hbw4))
      go_ret2
      exact ⟨HB4.out, A2, k2, rfl, HO4.out⟩
    · rw [if_neg (fun h => hcb (Option.some.inj h))]
      have HBf : Hid (∀ W u, IsB W u c → IsB W v b → Calls Tryz.prog 21 #[u, v] W (RetB (.bool false) W)) := fun W u h h2 => by
        have := HBy.out W u c h h2
        rwa [decide_eq_false hcb] at this
      obtain ⟨A, k, rfl⟩ := isB_slice hv
      clear hv hL hz hp hm ho hfl HBy hcb
      go_enter Tryz.func35, Tryz.ntmps35
      go_wp2_with (first | ((go_at_call 64); (with_reducible refine (HD.out _ HV.out).mono ?_); rintro e w1 ⟨hbw1, c1, c2, c3, a4, a5, n4, k4, n5, k5, t, rfl, hrd⟩; have HRD := Lib.hid hrd; have HB1 := Lib.hid hbw1; clear hrd hbw1) | ((go_at_call 76); (with_reducible refine (HRD.out _ ((Below.refl _ w1).alloc (Nat.le_refl _) _)).mono ?_); rintro e w2 ⟨A2, k2, rfl, ho2, hbw2⟩; have HB2 := Lib.hid ((HB1.out.alloc HB1.out.size _).trans (hbw2.mono (by have := HB1.out.size; simp; omega))); have HO2 := Lib.hid (isMs_of ho2.isL); clear ho2 hbw2) | ((go_at_call 30); (with_reducible refine (HM.out _ _ HO2.out).mono ?_); rintro e w3 ⟨v3, rfl, ho3, hbw3⟩; obtain ⟨A3, k3, rfl⟩ := isB_slice ho3.isB; have HB3 := Lib.hid (HB2.out.trans (hbw3.mono HB2.out.size)); have HV3 := Lib.hid ho3.isB; have HO3 := Lib.hid (HO2.out.below hbw3); clear hbw3 ho3) | ((go_at_call 21); (with_reducible refine (HBf.out _ _ HV3.out (HV.out.below HB3.out)).mono ?_); rintro e w4 ⟨rfl, hbw4⟩; have HB4 := Lib.hid (HB3.out.trans (hbw4.mono HB3.out.size)); clear hbw4))
      go_ret2
      exact ⟨HB4.out, rfl⟩
end Go.Proofs.YtjjkimjdmpeddaaGreatDoor
end
