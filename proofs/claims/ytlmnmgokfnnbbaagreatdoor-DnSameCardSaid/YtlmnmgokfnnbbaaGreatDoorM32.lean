/- The parts RefW, RefX of one proof, one behind the other. -/
import Derived.Test.YtlmnmgokfnnbbaaGreatDoorM31
import Derived.Test.YtlmnmgokfnnbbaaGreatDoorM21
import Derived.StillTailTactics
import Derived.Test.YtlmnmgokfnnbbaaGreatDoorM25

/- Walk over the reference's layer 7 (charset): Encode. -/
section
set_option linter.unusedSimpArgs false
set_option linter.unusedVariables false
namespace Go.Proofs.YtlmnmgokfnnbbaaGreatDoor
open Go.RowKit Go.Cr
theorem isB_litc (w : World) (t : TypeId) (cs : Array Value) (n : Nat) (b : List UInt8) (hn : b.length = n) (hp : n ≤ maxLen) (hsz : cs.size = n * 1) (hc : bCells b = cs.toList) : IsB (w.alloc (.cells cs t)) (.slice (some ⟨w.heap.size, 0, none⟩) n n) b := by
  subst hn
  have h := World.ownsRow_lit (base := w.heap.size) (e := t) (size := 1) w cs b.length (Nat.le_refl _) hp hsz
  rw [← hc] at h
  exact OwB.isB h
theorem wp_app_run {P : Program} {w : World} {o : Oper} {a : Act} {K : Act → World → Prop} {Q : Exit → Act → World → Prop} (s y : Operand) (t t' : TypeId)
    (ho : o.op = .call { callee := .builtin .append, args := #[s, y], argTypes := #[t, t'] }) (v x v' : Value) (w' : World) (hs : a.eval s = v) (hyx : a.eval y = x)
    (hr : (Builtin.append_ #[t, t'] o.type #[v, x]).run P w = .ok v' w') (h : K (a.put o.dst v') w') : Oper.wp P o a w K Q := by
  unfold Oper.wp execOp
  simp only [ho, resolve, invoke, builtin, Sem.run_bind, Sem.run_pure, Result.andThen_ok, List.map_toArray, List.map_cons, List.map_nil, hs, hyx, hr]
  exact h
def chR (n c : Nat) : List UInt8 := if n = 0 then enc1 c else beW n c
theorem chR_len {n c : Nat} (h : okc c = true) (hn : n ≤ 4) : (chR n c).length ≤ 4 := by
  unfold chR
  split
  · exact (enc1_len h).2
  · rw [beW_len]; exact hn
theorem flatMap_len (f : Nat → List UInt8) : ∀ cs : List Nat, (∀ c ∈ cs, (f c).length ≤ 4) → (cs.flatMap f).length ≤ 4 * cs.length := by
  intro cs
  induction cs with
  | nil => intro _; simp
  | cons c t ih =>
    intro h
    have h1 := h c (by simp)
    have h2 := ih (fun c hc => h c (by simp [hc]))
    simp only [List.flatMap_cons, List.length_append, List.length_cons]
    omega
theorem encT_ch {k : Int} {s : List UInt8} {n : Nat} {cs : List Nat} (hw : widthK k = some n) (hv : validT k s = true) (hp : pts s = some cs) : encT k s = some (cs.flatMap (chR n)) := by
  unfold encT
  rw [if_pos hv, hw, hp]
  cases n with
  | zero =>
    have h := (pts_enc s cs hp).2
    have e : (fun c => chR 0 c) = enc1 := by funext c; rfl
    show some s = some (cs.flatMap (fun c => chR 0 c))
    rw [e, h]
  | succ n =>
    have e : (fun c => chR (n + 1) c) = beW (n + 1) := by funext c; rfl
    show some (cs.flatMap (beW (n + 1))) = some (cs.flatMap (fun c => chR (n + 1) c))
    rw [e]
theorem flat_take (f : Nat → List UInt8) (cs : List Nat) (i : Nat) (h : i < cs.length) : (cs.take (i + 1)).flatMap f = (cs.take i).flatMap f ++ f (cs.getD i 0) := by
  rw [List.take_succ_eq_append_getElem h, List.flatMap_append]
  congr 1
  simp [h]
def EeRel (n : Nat) (cs : List Nat) (w : World) (out ix : Value) (wr : World) : Prop := ∃ i : Nat, ix = .int .i64 (i : Int) ∧ i ≤ cs.length ∧ OwB wr w.heap.size 5 out ((cs.take i).flatMap (chR n)) ∧ Below w.heap.size w wr
def RetEeY (c : List UInt8) (w : World) (e : Ending) (w' : World) : Prop := ∃ A k, e = .returned (.tuple #[.slice A c.length k, .int .i64 0]) ∧ IsB w' (.slice A c.length k) c ∧ Below w.heap.size w w'

set_option maxRecDepth 100000 in
set_option maxHeartbeats 4000000 in
theorem rEnc_0 (k : Int) (s : ByteArray) (cs : List Nat) (w : World) (hs : s.size ≤ 100000) (hw : widthK k = some 0) (hv : validT k s.data.toList = true) (hp : pts s.data.toList = some cs) (hh : ∀ c ∈ cs, hasK k (c : Int) = true) : Calls Tryz.prog 151 #[.agg #[.int .i64 k, .string s]] w (RetEeY (cs.flatMap (chR 0)) w) := by
  have HV : Hid (∀ W, Calls Tryz.prog 142 #[.agg #[.int .i64 k, .string s]] W (RetB (.bool true) W)) := fun W => by have := rValid7 k s W (by omega); rw [hv] at this; exact this
  have HP : Hid (∀ W, Calls Tryz.prog 181 #[.string s] W (RetPtY cs W)) := fun W => by have := points_any s W (by omega); rw [hp] at this; exact this.mono fun e w' hh => hh.yes
  have HW : Hid (∀ W, Calls Tryz.prog 182 #[.int .i64 k] W fun e w' => e = .returned (.int .i64 0) ∧ w' = W) := fun W => by have := width_any k W; unfold widR at this; rw [hw] at this; exact this
  have hcl := pts_len hp
  have hL : s.data.toList.length = s.size := rfl
  have hok := (pts_enc _ cs hp).1
  have hlenI : (cs.length : Int) ≤ 100000 := by omega
  have HH := Lib.hid hh
  have HOK := Lib.hid hok
  have HWK := Lib.hid hw
  have HFL := Lib.hid (fun i => flatMap_len (chR 0) (cs.take i) (fun c hc => chR_len (hok c (List.mem_of_mem_take hc)) (by omega)))
  clear hp hv hs hcl hL hok hw hh
  obtain ⟨R, hR⟩ : ∃ R, cs.flatMap (chR 0) = R := ⟨_, rfl⟩
  rw [hR]
  have HR := Lib.hid hR
  clear hR
  go_enter Tryz.func151, Tryz.ntmps151
  go_wp2_with (first | ((go_at_call 142); (with_reducible refine (HV.out _).mono ?_); rintro e w0 ⟨rfl, hbw0⟩; have I0 := Blk.call (Blk.new w 97 #[.int .i64 k, .string s]) hbw0; have q0 := I0.q; have HI0 := Lib.hid I0; clear I0) | ((go_at_call 181); (with_reducible refine (HP.out _).mono ?_); rintro e w1 ⟨A1, k1, rfl, hu1, hbw1⟩; have hlen := hu1.len (P := Tryz.prog) ulInts; have HU := Lib.hid hu1; clear hu1))
  have b0 : Below w.heap.size w w0 := ((Below.refl _ w).alloc (Nat.le_refl _) (.cells #[.int .i64 k, .string s] 97)).trans (hbw0.mono (by simp))
  have HB1 := Lib.hid (b0.trans (hbw1.mono b0.size))
  have HI1 := Lib.hid (Blk.call HI0.out hbw1)
  have hsz1 : w.heap.size < w1.heap.size := HI1.out.lt
  clear hbw0 hbw1 b0 q0
  go_loopw [6, 7] (fun out ix wr => EeRel 0 cs w1 out ix wr) (fun _ ix _ => cs.length + 1 - (intOf ix).toNat)
  case atStart => exact ⟨0, rfl, Nat.zero_le _, by simpa using OwB.nil_ _ _ _, Below.refl _ _⟩
  case round =>
    obtain ⟨i, rfl, hi, how, hbel⟩ := hrel
    have HBR := Lib.hid hbel
    have HOW := Lib.hid how
    have I1 := Blk.call HI1.out hbel
    have q1 := I1.q
    have hszr : w1.heap.size ≤ wr.heap.size := hbel.size
    clear how
    by_cases hlt : i < cs.length
    · obtain ⟨b2, o2, hi2, hl2, hc2⟩ := HU.out.at_ (P := Tryz.prog) ulInts szInt .i64 (i := (i : Int)) (by omega) (by omega)
      rw [Int.toNat_natCast, ← hbel.cell (p := ⟨b2, o2, none⟩) hl2] at hc2
      have hcm : cs.getD i 0 ∈ cs := by simp [hlt]
      have HTK := Lib.hid (flat_take (chR 0) cs i hlt)
      have hfl := HFL.out i
      have hfl2 := HFL.out (i + 1)
      have htk0 : (cs.take i).length ≤ i := by rw [List.length_take]; omega
      have hf3 : ((cs.take i).flatMap (chR 0)).length ≤ 400000 := by omega
      have HF3 := Lib.hid hf3
      obtain ⟨c, hcd⟩ : ∃ c, cs.getD i 0 = c := ⟨_, rfl⟩
      rw [hcd] at hcm hc2 HTK
      have hcok := HOK.out c hcm
      have hchs := HH.out c hcm
      have hc0 : (c : Int) ≤ 1114111 := by have := okc_iff.1 hcok; omega
      have HCK := Lib.hid hcok
      have HWC := Lib.hid (show (chR 0 c).length ≤ 4 from chR_len hcok (by omega))
      have hltI : (i : Int) < cs.length := by omega
      have HI2 := Lib.hid I1
      have HO : Hid (∀ W, Calls Tryz.prog 192 #[.int .i64 (c : Int)] W (RetO 5 (chR 0 c) W)) := fun W => octets_yes c W hcok
      clear hbel hcm hcd hfl hfl2 hf3 htk0 hcok hchs I1
      generalize hLg : (cs.take i).flatMap (chR 0) = LL at *
      go_wp2_with (first | ((go_at_call 182); (with_reducible refine (HW.out _).mono ?_); rintro e w2 ⟨rfl, hww⟩; rw [hww]; clear hww) | ((go_at_call 192); (with_reducible refine (HO.out _).mono ?_); rintro e w3 ⟨v3, rfl, ho3, hbw3⟩; have HO3 := Lib.hid ho3; have HB3 := Lib.hid hbw3; clear ho3 hbw3) | (at_builtin; refine wpList_appB _ rfl _ _ 33 rfl w1.heap.size 5 ulB infoB _ _ rfl (HOW.out.below HB3.out) _ (chR 0 c) rfl HO3.out.isB ?k1 ?k2 ?_))
      case k1 => have := HF3.out; have := HWC.out; omega
      case k2 => have := HB3.out.size; omega
      intro v4 w4 ho4 _ hb4
      have HO4 := Lib.hid ho4
      have HB4 := Lib.hid ((HBR.out.trans (HB3.out.mono HBR.out.size)).trans hb4)
      clear ho4 hb4
      go_wp2
      go_roundw
      case rel => exact ⟨i + 1, by go_num, by omega, by rw [HTK.out]; exact HO4.out, HB4.out⟩
      case measure => simp [intOf]; omega
    · have hge : (cs.length : Int) ≤ i := by omega
      have hie : i = cs.length := by omega
      have how := HOW.out
      rw [hie, List.take_length, HR.out] at how
      have HO2 := Lib.hid how
      clear hlt hi hie how hbel I1
      obtain ⟨Ao, ko, hoe⟩ := isB_slice HO2.out.isB
      subst hoe
      go_wp2_with fail
      go_ret2
      exact ⟨Ao, ko, rfl, HO2.out.isB, HB1.out.trans (HBR.out.mono HB1.out.size)⟩

set_option maxRecDepth 100000 in
set_option maxHeartbeats 4000000 in
theorem rEnc_1 (k : Int) (s : ByteArray) (cs : List Nat) (w : World) (hs : s.size ≤ 100000) (hw : widthK k = some 1) (hv : validT k s.data.toList = true) (hp : pts s.data.toList = some cs) (hh : ∀ c ∈ cs, hasK k (c : Int) = true) : Calls Tryz.prog 151 #[.agg #[.int .i64 k, .string s]] w (RetEeY (cs.flatMap (chR 1)) w) := by
  have HV : Hid (∀ W, Calls Tryz.prog 142 #[.agg #[.int .i64 k, .string s]] W (RetB (.bool true) W)) := fun W => by have := rValid7 k s W (by omega); rw [hv] at this; exact this
  have HP : Hid (∀ W, Calls Tryz.prog 181 #[.string s] W (RetPtY cs W)) := fun W => by have := points_any s W (by omega); rw [hp] at this; exact this.mono fun e w' hh => hh.yes
  have HW : Hid (∀ W, Calls Tryz.prog 182 #[.int .i64 k] W fun e w' => e = .returned (.int .i64 1) ∧ w' = W) := fun W => by have := width_any k W; unfold widR at this; rw [hw] at this; exact this
  have hcl := pts_len hp
  have hL : s.data.toList.length = s.size := rfl
  have hok := (pts_enc _ cs hp).1
  have hlenI : (cs.length : Int) ≤ 100000 := by omega
  have HH := Lib.hid hh
  have HOK := Lib.hid hok
  have HWK := Lib.hid hw
  have HFL := Lib.hid (fun i => flatMap_len (chR 1) (cs.take i) (fun c hc => chR_len (hok c (List.mem_of_mem_take hc)) (by omega)))
  clear hp hv hs hcl hL hok hw hh
  obtain ⟨R, hR⟩ : ∃ R, cs.flatMap (chR 1) = R := ⟨_, rfl⟩
  rw [hR]
  have HR := Lib.hid hR
  clear hR
  go_enter Tryz.func151, Tryz.ntmps151
  go_wp2_with (first | ((go_at_call 142); (with_reducible refine (HV.out _).mono ?_); rintro e w0 ⟨rfl, hbw0⟩; have I0 := Blk.call (Blk.new w 97 #[.int .i64 k, .string s]) hbw0; have q0 := I0.q; have HI0 := Lib.hid I0; clear I0) | ((go_at_call 181); (with_reducible refine (HP.out _).mono ?_); rintro e w1 ⟨A1, k1, rfl, hu1, hbw1⟩; have hlen := hu1.len (P := Tryz.prog) ulInts; have HU := Lib.hid hu1; clear hu1))
  have b0 : Below w.heap.size w w0 := ((Below.refl _ w).alloc (Nat.le_refl _) (.cells #[.int .i64 k, .string s] 97)).trans (hbw0.mono (by simp))
  have HB1 := Lib.hid (b0.trans (hbw1.mono b0.size))
  have HI1 := Lib.hid (Blk.call HI0.out hbw1)
  have hsz1 : w.heap.size < w1.heap.size := HI1.out.lt
  clear hbw0 hbw1 b0 q0
  go_loopw [6, 7] (fun out ix wr => EeRel 1 cs w1 out ix wr) (fun _ ix _ => cs.length + 1 - (intOf ix).toNat)
  case atStart => exact ⟨0, rfl, Nat.zero_le _, by simpa using OwB.nil_ _ _ _, Below.refl _ _⟩
  case round =>
    obtain ⟨i, rfl, hi, how, hbel⟩ := hrel
    have HBR := Lib.hid hbel
    have HOW := Lib.hid how
    have I1 := Blk.call HI1.out hbel
    have q1 := I1.q
    have hszr : w1.heap.size ≤ wr.heap.size := hbel.size
    clear how
    by_cases hlt : i < cs.length
    · obtain ⟨b2, o2, hi2, hl2, hc2⟩ := HU.out.at_ (P := Tryz.prog) ulInts szInt .i64 (i := (i : Int)) (by omega) (by omega)
      rw [Int.toNat_natCast, ← hbel.cell (p := ⟨b2, o2, none⟩) hl2] at hc2
      have hcm : cs.getD i 0 ∈ cs := by simp [hlt]
      have HTK := Lib.hid (flat_take (chR 1) cs i hlt)
      have hfl := HFL.out i
      have hfl2 := HFL.out (i + 1)
      have htk0 : (cs.take i).length ≤ i := by rw [List.length_take]; omega
      have hf3 : ((cs.take i).flatMap (chR 1)).length ≤ 400000 := by omega
      have HF3 := Lib.hid hf3
      obtain ⟨c, hcd⟩ : ∃ c, cs.getD i 0 = c := ⟨_, rfl⟩
      rw [hcd] at hcm hc2 HTK
      have hcok := HOK.out c hcm
      have hchs := HH.out c hcm
      have hc0 : (c : Int) ≤ 1114111 := by have := okc_iff.1 hcok; omega
      have HCK := Lib.hid hcok
      have HWC := Lib.hid (show (chR 1 c).length ≤ 4 from chR_len hcok (by omega))
      have hltI : (i : Int) < cs.length := by omega
      have HI2 := Lib.hid I1
      have hsm := hasK_small hchs HWK.out
      have hc1 : (c : Int) ≤ 255 := hsm.2
      obtain ⟨z, hz1, hz2⟩ : ∃ z : List UInt8, chR 1 c = z ∧ bCells z = [.int .u8 (c : Int)] := ⟨[UInt8.ofNat (c % 256)], rfl, by simp only [bCells, List.map_cons, List.map_nil, u8bi]; rw [show (((c % 256 : Nat) : Int) % 256) = (c : Int) by omega]⟩
      have hzl : z.length = 1 := by rw [← hz1]; rfl
      have HX := Lib.hid (fun W : World => isB_litc W 5 #[.int .u8 (c : Int)] 1 z hzl (by decide) rfl hz2)
      rw [hz1] at HTK HWC
      clear hz1 hz2 hsm
      clear hbel hcm hcd hfl hfl2 hf3 htk0 hcok hchs I1
      generalize hLg : (cs.take i).flatMap (chR 1) = LL at *
      go_wp2_with (first | ((go_at_call 182); (with_reducible refine (HW.out _).mono ?_); rintro e w2 ⟨rfl, hww⟩; rw [hww]; clear hww) | (at_builtin; refine wpList_appB _ rfl _ _ 33 rfl w1.heap.size 5 ulB infoB _ _ rfl (HOW.out.alloc _) _ z rfl (HX.out _) ?k1 ?k2 ?_))
      case k1 => have := HF3.out; have := HWC.out; omega
      case k2 => simp; omega
      intro v4 w4 ho4 _ hb4
      have HO4 := Lib.hid ho4
      have HB4 := Lib.hid ((HBR.out.alloc hszr _).trans hb4)
      clear ho4 hb4
      go_wp2
      go_roundw
      case rel => exact ⟨i + 1, by go_num, by omega, by rw [HTK.out]; exact HO4.out, HB4.out⟩
      case measure => simp [intOf]; omega
    · have hge : (cs.length : Int) ≤ i := by omega
      have hie : i = cs.length := by omega
      have how := HOW.out
      rw [hie, List.take_length, HR.out] at how
      have HO2 := Lib.hid how
      clear hlt hi hie how hbel I1
      obtain ⟨Ao, ko, hoe⟩ := isB_slice HO2.out.isB
      subst hoe
      go_wp2_with fail
      go_ret2
      exact ⟨Ao, ko, rfl, HO2.out.isB, HB1.out.trans (HBR.out.mono HB1.out.size)⟩

set_option maxRecDepth 100000 in
set_option maxHeartbeats 4000000 in
theorem rEnc_2 (k : Int) (s : ByteArray) (cs : List Nat) (w : World) (hs : s.size ≤ 100000) (hw : widthK k = some 2) (hv : validT k s.data.toList = true) (hp : pts s.data.toList = some cs) (hh : ∀ c ∈ cs, hasK k (c : Int) = true) : Calls Tryz.prog 151 #[.agg #[.int .i64 k, .string s]] w (RetEeY (cs.flatMap (chR 2)) w) := by
  have HV : Hid (∀ W, Calls Tryz.prog 142 #[.agg #[.int .i64 k, .string s]] W (RetB (.bool true) W)) := fun W => by have := rValid7 k s W (by omega); rw [hv] at this; exact this
  have HP : Hid (∀ W, Calls Tryz.prog 181 #[.string s] W (RetPtY cs W)) := fun W => by have := points_any s W (by omega); rw [hp] at this; exact this.mono fun e w' hh => hh.yes
  have HW : Hid (∀ W, Calls Tryz.prog 182 #[.int .i64 k] W fun e w' => e = .returned (.int .i64 2) ∧ w' = W) := fun W => by have := width_any k W; unfold widR at this; rw [hw] at this; exact this
  have hcl := pts_len hp
  have hL : s.data.toList.length = s.size := rfl
  have hok := (pts_enc _ cs hp).1
  have hlenI : (cs.length : Int) ≤ 100000 := by omega
  have HH := Lib.hid hh
  have HOK := Lib.hid hok
  have HWK := Lib.hid hw
  have HFL := Lib.hid (fun i => flatMap_len (chR 2) (cs.take i) (fun c hc => chR_len (hok c (List.mem_of_mem_take hc)) (by omega)))
  clear hp hv hs hcl hL hok hw hh
  obtain ⟨R, hR⟩ : ∃ R, cs.flatMap (chR 2) = R := ⟨_, rfl⟩
  rw [hR]
  have HR := Lib.hid hR
  clear hR
  go_enter Tryz.func151, Tryz.ntmps151
  go_wp2_with (first | ((go_at_call 142); (with_reducible refine (HV.out _).mono ?_); rintro e w0 ⟨rfl, hbw0⟩; have I0 := Blk.call (Blk.new w 97 #[.int .i64 k, .string s]) hbw0; have q0 := I0.q; have HI0 := Lib.hid I0; clear I0) | ((go_at_call 181); (with_reducible refine (HP.out _).mono ?_); rintro e w1 ⟨A1, k1, rfl, hu1, hbw1⟩; have hlen := hu1.len (P := Tryz.prog) ulInts; have HU := Lib.hid hu1; clear hu1))
  have b0 : Below w.heap.size w w0 := ((Below.refl _ w).alloc (Nat.le_refl _) (.cells #[.int .i64 k, .string s] 97)).trans (hbw0.mono (by simp))
  have HB1 := Lib.hid (b0.trans (hbw1.mono b0.size))
  have HI1 := Lib.hid (Blk.call HI0.out hbw1)
  have hsz1 : w.heap.size < w1.heap.size := HI1.out.lt
  clear hbw0 hbw1 b0 q0
  go_loopw [6, 7] (fun out ix wr => EeRel 2 cs w1 out ix wr) (fun _ ix _ => cs.length + 1 - (intOf ix).toNat)
  case atStart => exact ⟨0, rfl, Nat.zero_le _, by simpa using OwB.nil_ _ _ _, Below.refl _ _⟩
  case round =>
    obtain ⟨i, rfl, hi, how, hbel⟩ := hrel
    have HBR := Lib.hid hbel
    have HOW := Lib.hid how
    have I1 := Blk.call HI1.out hbel
    have q1 := I1.q
    have hszr : w1.heap.size ≤ wr.heap.size := hbel.size
    clear how
    by_cases hlt : i < cs.length
    · obtain ⟨b2, o2, hi2, hl2, hc2⟩ := HU.out.at_ (P := Tryz.prog) ulInts szInt .i64 (i := (i : Int)) (by omega) (by omega)
      rw [Int.toNat_natCast, ← hbel.cell (p := ⟨b2, o2, none⟩) hl2] at hc2
      have hcm : cs.getD i 0 ∈ cs := by simp [hlt]
      have HTK := Lib.hid (flat_take (chR 2) cs i hlt)
      have hfl := HFL.out i
      have hfl2 := HFL.out (i + 1)
      have htk0 : (cs.take i).length ≤ i := by rw [List.length_take]; omega
      have hf3 : ((cs.take i).flatMap (chR 2)).length ≤ 400000 := by omega
      have HF3 := Lib.hid hf3
      obtain ⟨c, hcd⟩ : ∃ c, cs.getD i 0 = c := ⟨_, rfl⟩
      rw [hcd] at hcm hc2 HTK
      have hcok := HOK.out c hcm
      have hchs := HH.out c hcm
      have hc0 : (c : Int) ≤ 1114111 := by have := okc_iff.1 hcok; omega
      have HCK := Lib.hid hcok
      have HWC := Lib.hid (show (chR 2 c).length ≤ 4 from chR_len hcok (by omega))
      have hltI : (i : Int) < cs.length := by omega
      have HI2 := Lib.hid I1
      have hcb : (c : Int) ≤ 65535 := by
        have h1 := hasK_lt HWK.out hchs
        have h2 : (256 : Nat) ^ (1 + 1) = 65536 := by decide
        omega
      obtain ⟨d1, hd1⟩ : ∃ d1 : Int, (c : Int) / 256 = d1 := ⟨_, rfl⟩
      obtain ⟨d2, hd2⟩ : ∃ d2 : Int, (c : Int) % 256 = d2 := ⟨_, rfl⟩
      have g1 : (c : Int).tdiv 256 = d1 := by rw [Int.tdiv_eq_ediv_of_nonneg (by omega)]; exact hd1
      have g2 : (c : Int).tmod 256 = d2 := by rw [Int.tmod_eq_emod_of_nonneg (by omega)]; exact hd2
      have g3 : IntKind.i64.wrap d1 = d1 := by rw [IntKind.wrap_i64]; omega
      have g4 : IntKind.u8.wrap d1 = d1 := by rw [IntKind.wrap_u8]; omega
      have g5 : IntKind.i64.wrap d2 = d2 := by rw [IntKind.wrap_i64]; omega
      have g6 : IntKind.u8.wrap d2 = d2 := by rw [IntKind.wrap_u8]; omega
      have g7 : d1 % 256 = d1 := by omega
      have g8 : d2 % 256 = d2 := by omega
      obtain ⟨z, hz1, hz2⟩ : ∃ z : List UInt8, chR 2 c = z ∧ bCells z = [.int .u8 d1, .int .u8 d2] := ⟨_, rfl, by
        show bCells [UInt8.ofNat (c / 256 % 256), UInt8.ofNat (c % 256)] = _
        simp only [bCells, List.map_cons, List.map_nil, u8bi]
        rw [show (((c / 256 % 256 : Nat) : Int) % 256) = d1 by omega, show (((c % 256 : Nat) : Int) % 256) = d2 by omega]⟩
      have hzl : z.length = 2 := by rw [← hz1]; exact beW_len 2 c
      have HX := Lib.hid (fun W : World => isB_litc W 5 #[.int .u8 d1, .int .u8 d2] 2 z hzl (by decide) rfl hz2)
      rw [hz1] at HTK HWC
      clear hz1 hz2
      clear hbel hcm hcd hfl hfl2 hf3 htk0 hcok hchs I1
      generalize hLg : (cs.take i).flatMap (chR 2) = LL at *
      obtain ⟨i0, hi0, hz0, hz1', hz2'⟩ := info_parts infoB
      have hx0 := (HX.out wr.drew).isR
      rw [hzl] at hx0
      obtain ⟨v4, w4, hr4, ho4, -, hb4⟩ := run_app (P := Tryz.prog) (wr.drew.alloc (.cells #[.int .u8 d1, .int .u8 d2] 5)) w1.heap.size 33 33 5 i0 _ 1 1 ulB hi0 hz0 hz1' hz2' rfl (by decide) _ LL.length (bCells LL) (OwB.alloc (show OwB wr.drew w1.heap.size 5 _ LL from HOW.out) _) _ 2 (bCells z) hx0 (bCells_one _) (by have := HF3.out; unfold maxLen; omega) (by have := HF3.out; omega) (by simp; omega)
      have HO4 : Hid (OwB w4 w1.heap.size 5 v4 (LL ++ z)) := by
        show OwB _ _ _ _ _
        unfold OwB
        rw [bCells_app, List.length_append, hzl]
        exact ho4
      have hcw : w4.cell? ⟨b2, o2, none⟩ = some (.int .i64 (c : Int)) := (hb4.cell (p := ⟨b2, o2, none⟩) hl2).trans ((((Below.refl wr.drew.heap.size wr.drew).alloc (Nat.le_refl _) _).cell (p := ⟨b2, o2, none⟩) (Nat.lt_of_lt_of_le hl2 hszr)).trans hc2)
      have HB4 := Lib.hid ((HBR.out.drew.alloc (by exact hszr) _).trans hb4)
      have HKW := Lib.hid ((Blk.drew HI2.out).alloc (.cells #[.int .u8 d1, .int .u8 d2] 5))
      have hk4 : w4.cell? ⟨w.heap.size, 0, none⟩ = some (.int .i64 k) := (hb4.cell (p := ⟨w.heap.size, 0, none⟩) hsz1).trans ((Blk.q HKW.out 0).trans rfl)
      clear ho4 hb4 hx0 hi0 hz0 hz1' hz2' hzl
      go_wp2_with (((go_at_call 182); (with_reducible refine (HW.out _).mono ?_); rintro e w2 ⟨rfl, hww⟩; rw [hww]; clear hww))
      go_region_held3 (fun W' => W'.cell? ⟨b2, o2, none⟩ = some (.int .i64 (c : Int)))
        (first | go_keep | exact hcw | (trace_state; fail))
        (first | (rw [if_pos (by rfl)]; refine wp_app_run _ _ _ _ rfl _ _ _ _ rfl rfl hr4 ?_))
      go_wp2
      go_roundw
      case rel => exact ⟨i + 1, by go_num, by omega, by rw [HTK.out]; exact HO4.out, HB4.out⟩
      case measure => simp [intOf]; omega
    · have hge : (cs.length : Int) ≤ i := by omega
      have hie : i = cs.length := by omega
      have how := HOW.out
      rw [hie, List.take_length, HR.out] at how
      have HO2 := Lib.hid how
      clear hlt hi hie how hbel I1
      obtain ⟨Ao, ko, hoe⟩ := isB_slice HO2.out.isB
      subst hoe
      go_wp2_with fail
      go_ret2
      exact ⟨Ao, ko, rfl, HO2.out.isB, HB1.out.trans (HBR.out.mono HB1.out.size)⟩

set_option maxRecDepth 100000 in
set_option maxHeartbeats 4000000 in
theorem rEnc_4 (k : Int) (s : ByteArray) (cs : List Nat) (w : World) (hs : s.size ≤ 100000) (hw : widthK k = some 4) (hv : validT k s.data.toList = true) (hp : pts s.data.toList = some cs) (hh : ∀ c ∈ cs, hasK k (c : Int) = true) : Calls Tryz.prog 151 #[.agg #[.int .i64 k, .string s]] w (RetEeY (cs.flatMap (chR 4)) w) := by
  have HV : Hid (∀ W, Calls Tryz.prog 142 #[.agg #[.int .i64 k, .string s]] W (RetB (.bool true) W)) := fun W => by have := rValid7 k s W (by omega); rw [hv] at this; exact this
  have HP : Hid (∀ W, Calls Tryz.prog 181 #[.string s] W (RetPtY cs W)) := fun W => by have := points_any s W (by omega); rw [hp] at this; exact this.mono fun e w' hh => hh.yes
  have HW : Hid (∀ W, Calls Tryz.prog 182 #[.int .i64 k] W fun e w' => e = .returned (.int .i64 4) ∧ w' = W) := fun W => by have := width_any k W; unfold widR at this; rw [hw] at this; exact this
  have hcl := pts_len hp
  have hL : s.data.toList.length = s.size := rfl
  have hok := (pts_enc _ cs hp).1
  have hlenI : (cs.length : Int) ≤ 100000 := by omega
  have HH := Lib.hid hh
  have HOK := Lib.hid hok
  have HWK := Lib.hid hw
  have HFL := Lib.hid (fun i => flatMap_len (chR 4) (cs.take i) (fun c hc => chR_len (hok c (List.mem_of_mem_take hc)) (by omega)))
  clear hp hv hs hcl hL hok hw hh
  obtain ⟨R, hR⟩ : ∃ R, cs.flatMap (chR 4) = R := ⟨_, rfl⟩
  rw [hR]
  have HR := Lib.hid hR
  clear hR
  go_enter Tryz.func151, Tryz.ntmps151
  go_wp2_with (first | ((go_at_call 142); (with_reducible refine (HV.out _).mono ?_); rintro e w0 ⟨rfl, hbw0⟩; have I0 := Blk.call (Blk.new w 97 #[.int .i64 k, .string s]) hbw0; have q0 := I0.q; have HI0 := Lib.hid I0; clear I0) | ((go_at_call 181); (with_reducible refine (HP.out _).mono ?_); rintro e w1 ⟨A1, k1, rfl, hu1, hbw1⟩; have hlen := hu1.len (P := Tryz.prog) ulInts; have HU := Lib.hid hu1; clear hu1))
  have b0 : Below w.heap.size w w0 := ((Below.refl _ w).alloc (Nat.le_refl _) (.cells #[.int .i64 k, .string s] 97)).trans (hbw0.mono (by simp))
  have HB1 := Lib.hid (b0.trans (hbw1.mono b0.size))
  have HI1 := Lib.hid (Blk.call HI0.out hbw1)
  have hsz1 : w.heap.size < w1.heap.size := HI1.out.lt
  clear hbw0 hbw1 b0 q0
  go_loopw [6, 7] (fun out ix wr => EeRel 4 cs w1 out ix wr) (fun _ ix _ => cs.length + 1 - (intOf ix).toNat)
  case atStart => exact ⟨0, rfl, Nat.zero_le _, by simpa using OwB.nil_ _ _ _, Below.refl _ _⟩
  case round =>
    obtain ⟨i, rfl, hi, how, hbel⟩ := hrel
    have HBR := Lib.hid hbel
    have HOW := Lib.hid how
    have I1 := Blk.call HI1.out hbel
    have q1 := I1.q
    have hszr : w1.heap.size ≤ wr.heap.size := hbel.size
    clear how
    by_cases hlt : i < cs.length
    · obtain ⟨b2, o2, hi2, hl2, hc2⟩ := HU.out.at_ (P := Tryz.prog) ulInts szInt .i64 (i := (i : Int)) (by omega) (by omega)
      rw [Int.toNat_natCast, ← hbel.cell (p := ⟨b2, o2, none⟩) hl2] at hc2
      have hcm : cs.getD i 0 ∈ cs := by simp [hlt]
      have HTK := Lib.hid (flat_take (chR 4) cs i hlt)
      have hfl := HFL.out i
      have hfl2 := HFL.out (i + 1)
      have htk0 : (cs.take i).length ≤ i := by rw [List.length_take]; omega
      have hf3 : ((cs.take i).flatMap (chR 4)).length ≤ 400000 := by omega
      have HF3 := Lib.hid hf3
      obtain ⟨c, hcd⟩ : ∃ c, cs.getD i 0 = c := ⟨_, rfl⟩
      rw [hcd] at hcm hc2 HTK
      have hcok := HOK.out c hcm
      have hchs := HH.out c hcm
      have hc0 : (c : Int) ≤ 1114111 := by have := okc_iff.1 hcok; omega
      have HCK := Lib.hid hcok
      have HWC := Lib.hid (show (chR 4 c).length ≤ 4 from chR_len hcok (by omega))
      have hltI : (i : Int) < cs.length := by omega
      have HI2 := Lib.hid I1
      have hcb : (c : Int) ≤ 1114111 := by
        exact hc0
      obtain ⟨d1, hd1⟩ : ∃ d1 : Int, (c : Int) / 65536 = d1 := ⟨_, rfl⟩
      obtain ⟨e2, he2⟩ : ∃ e2 : Int, (c : Int) / 256 = e2 := ⟨_, rfl⟩
      obtain ⟨d2, hd2⟩ : ∃ d2 : Int, e2 % 256 = d2 := ⟨_, rfl⟩
      obtain ⟨d3, hd3⟩ : ∃ d3 : Int, (c : Int) % 256 = d3 := ⟨_, rfl⟩
      have g1 : (c : Int).tdiv 65536 = d1 := by rw [Int.tdiv_eq_ediv_of_nonneg (by omega)]; exact hd1
      have g2 : (c : Int).tmod 256 = d3 := by rw [Int.tmod_eq_emod_of_nonneg (by omega)]; exact hd3
      have g9 : (c : Int).tdiv 256 = e2 := by rw [Int.tdiv_eq_ediv_of_nonneg (by omega)]; exact he2
      have gA : e2.tmod 256 = d2 := by rw [Int.tmod_eq_emod_of_nonneg (by omega)]; exact hd2
      have g3 : IntKind.i64.wrap d1 = d1 := by rw [IntKind.wrap_i64]; omega
      have g4 : IntKind.u8.wrap d1 = d1 := by rw [IntKind.wrap_u8]; omega
      have g5 : IntKind.i64.wrap d2 = d2 := by rw [IntKind.wrap_i64]; omega
      have g6 : IntKind.u8.wrap d2 = d2 := by rw [IntKind.wrap_u8]; omega
      have gB : IntKind.i64.wrap d3 = d3 := by rw [IntKind.wrap_i64]; omega
      have gC : IntKind.u8.wrap d3 = d3 := by rw [IntKind.wrap_u8]; omega
      have gD : IntKind.i64.wrap e2 = e2 := by rw [IntKind.wrap_i64]; omega
      have g7 : d1 % 256 = d1 := by omega
      have g8 : d2 % 256 = d2 := by omega
      have gE : d3 % 256 = d3 := by omega
      obtain ⟨z, hz1, hz2⟩ : ∃ z : List UInt8, chR 4 c = z ∧ bCells z = [.int .u8 0, .int .u8 d1, .int .u8 d2, .int .u8 d3] := ⟨_, rfl, by
        show bCells [UInt8.ofNat (c / 256 / 256 / 256 % 256), UInt8.ofNat (c / 256 / 256 % 256), UInt8.ofNat (c / 256 % 256), UInt8.ofNat (c % 256)] = _
        simp only [bCells, List.map_cons, List.map_nil, u8bi]
        rw [show (((c / 256 / 256 / 256 % 256 : Nat) : Int) % 256) = 0 by omega, show (((c / 256 / 256 % 256 : Nat) : Int) % 256) = d1 by omega, show (((c / 256 % 256 : Nat) : Int) % 256) = d2 by omega, show (((c % 256 : Nat) : Int) % 256) = d3 by omega]⟩
      have hzl : z.length = 4 := by rw [← hz1]; exact beW_len 4 c
      have HX := Lib.hid (fun W : World => isB_litc W 5 #[.int .u8 0, .int .u8 d1, .int .u8 d2, .int .u8 d3] 4 z hzl (by decide) rfl hz2)
      rw [hz1] at HTK HWC
      clear hz1 hz2
      clear hbel hcm hcd hfl hfl2 hf3 htk0 hcok hchs I1
      generalize hLg : (cs.take i).flatMap (chR 4) = LL at *
      obtain ⟨i0, hi0, hz0, hz1', hz2'⟩ := info_parts infoB
      have hx0 := (HX.out wr.drew).isR
      rw [hzl] at hx0
      obtain ⟨v4, w4, hr4, ho4, -, hb4⟩ := run_app (P := Tryz.prog) (wr.drew.alloc (.cells #[.int .u8 0, .int .u8 d1, .int .u8 d2, .int .u8 d3] 5)) w1.heap.size 33 33 5 i0 _ 1 1 ulB hi0 hz0 hz1' hz2' rfl (by decide) _ LL.length (bCells LL) (OwB.alloc (show OwB wr.drew w1.heap.size 5 _ LL from HOW.out) _) _ 4 (bCells z) hx0 (bCells_one _) (by have := HF3.out; unfold maxLen; omega) (by have := HF3.out; omega) (by simp; omega)
      have HO4 : Hid (OwB w4 w1.heap.size 5 v4 (LL ++ z)) := by
        show OwB _ _ _ _ _
        unfold OwB
        rw [bCells_app, List.length_append, hzl]
        exact ho4
      have hcw : w4.cell? ⟨b2, o2, none⟩ = some (.int .i64 (c : Int)) := (hb4.cell (p := ⟨b2, o2, none⟩) hl2).trans ((((Below.refl wr.drew.heap.size wr.drew).alloc (Nat.le_refl _) _).cell (p := ⟨b2, o2, none⟩) (Nat.lt_of_lt_of_le hl2 hszr)).trans hc2)
      have HB4 := Lib.hid ((HBR.out.drew.alloc (by exact hszr) _).trans hb4)
      have HKW := Lib.hid ((Blk.drew HI2.out).alloc (.cells #[.int .u8 0, .int .u8 d1, .int .u8 d2, .int .u8 d3] 5))
      have hk4 : w4.cell? ⟨w.heap.size, 0, none⟩ = some (.int .i64 k) := (hb4.cell (p := ⟨w.heap.size, 0, none⟩) hsz1).trans ((Blk.q HKW.out 0).trans rfl)
      clear ho4 hb4 hx0 hi0 hz0 hz1' hz2' hzl
      go_wp2_with (((go_at_call 182); (with_reducible refine (HW.out _).mono ?_); rintro e w2 ⟨rfl, hww⟩; rw [hww]; clear hww))
      go_region_held3 (fun W' => W'.cell? ⟨b2, o2, none⟩ = some (.int .i64 (c : Int)))
        (first | go_keep | exact hcw | (trace_state; fail))
        (first | (rw [if_pos (by rfl)]; refine wp_app_run _ _ _ _ rfl _ _ _ _ rfl rfl hr4 ?_))
      go_wp2
      go_roundw
      case rel => exact ⟨i + 1, by go_num, by omega, by rw [HTK.out]; exact HO4.out, HB4.out⟩
      case measure => simp [intOf]; omega
    · have hge : (cs.length : Int) ≤ i := by omega
      have hie : i = cs.length := by omega
      have how := HOW.out
      rw [hie, List.take_length, HR.out] at how
      have HO2 := Lib.hid how
      clear hlt hi hie how hbel I1
      obtain ⟨Ao, ko, hoe⟩ := isB_slice HO2.out.isB
      subst hoe
      go_wp2_with fail
      go_ret2
      exact ⟨Ao, ko, rfl, HO2.out.isB, HB1.out.trans (HBR.out.mono HB1.out.size)⟩

set_option maxRecDepth 100000 in
set_option maxHeartbeats 4000000 in
theorem rEnc_no (k : Int) (s : ByteArray) (w : World) (hs : s.size ≤ 100000) (hv : validT k s.data.toList = false) : Calls Tryz.prog 151 #[.agg #[.int .i64 k, .string s]] w (RetB (.tuple #[.slice none 0 0, .int .i64 8]) w) := by
  have HV : Hid (∀ W, Calls Tryz.prog 142 #[.agg #[.int .i64 k, .string s]] W (RetB (.bool false) W)) := fun W => by have := rValid7 k s W (by omega); rw [hv] at this; exact this
  clear hv hs
  go_enter Tryz.func151, Tryz.ntmps151
  go_wp2_with (((go_at_call 142); (with_reducible refine (HV.out _).mono ?_); rintro e w0 ⟨rfl, hbw0⟩))
  go_ret2
  exact ⟨rfl, by ((repeat' (first | (with_reducible exact Below.refl _ _) | (with_reducible assumption) | (with_reducible refine Below.setCell ?_ ?_ _) | (with_reducible refine Below.alloc ?_ ?_ _) | (with_reducible refine Below.drew ?_) | (with_reducible refine below_drewN ?_ _) | (with_reducible refine Below.step (by with_reducible assumption) ?_ ?_))) <;> (first | omega | (simp; done) | (simp; omega)))⟩
def RetEe (o : Option (List UInt8)) (w : World) (e : Ending) (w' : World) : Prop := match o with
  | none => RetB (.tuple #[.slice none 0 0, .int .i64 8]) w e w'
  | some c => RetEeY c w e w'
theorem rEncode7 (k : Int) (s : ByteArray) (w : World) (hs : s.size ≤ 100000) : Calls Tryz.prog 151 #[.agg #[.int .i64 k, .string s]] w (RetEe (encT k s.data.toList) w) := by
  cases hv : validT k s.data.toList with
  | false =>
    have : encT k s.data.toList = none := by unfold encT; rw [hv]; rfl
    rw [this]
    exact rEnc_no k s w hs hv
  | true =>
    obtain ⟨hw, cs, hp, hh⟩ := validT_iff.1 hv
    cases hk : widthK k with
    | none => rw [hk] at hw; cases hw
    | some n =>
      rw [encT_ch hk hv hp]
      rcases widthK_small hk with rfl | rfl | rfl | rfl
      · exact rEnc_0 k s cs w hs hk hv hp hh
      · exact rEnc_1 k s cs w hs hk hv hp hh
      · exact rEnc_2 k s cs w hs hk hv hp hh
      · exact rEnc_4 k s cs w hs hk hv hp hh
end Go.Proofs.YtlmnmgokfnnbbaaGreatDoor
end

/- Walk over the reference's layer 7 (charset): Decode. -/
section
set_option linter.unusedSimpArgs false
set_option linter.unusedVariables false
namespace Go.Proofs.YtlmnmgokfnnbbaaGreatDoor
open Go.RowKit Go.Cr
def RetEu (o : Option (List UInt8)) (w : World) (e : Ending) (w' : World) : Prop := ∃ (A : Option Addr) (n kk : Nat) (ec : Int), e = .returned (.tuple #[.slice A n kk, .int .i64 ec]) ∧ Below w.heap.size w w' ∧ ((o = none ∧ ec = 8) ∨ ∃ x, o = some x ∧ ec = 0 ∧ IsB w' (.slice A n kk) x)
theorem RetEe.uni {o : Option (List UInt8)} {w : World} {e : Ending} {w' : World} (h : RetEe o w e w') : RetEu o w e w' := by
  cases o with
  | none => exact ⟨none, 0, 0, 8, h.1, h.2, .inl ⟨rfl, rfl⟩⟩
  | some c =>
    obtain ⟨A, k, he, hv, hb⟩ := h
    exact ⟨A, _, k, 0, he, hb, .inr ⟨c, rfl, rfl, hv⟩⟩
theorem backR_len (n : Nat) (c : List UInt8) (hn : n ≤ 4) : (backR n c).length ≤ 4 * c.length := by
  unfold backR
  split
  · omega
  · rename_i h0
    have h1 := flatMap_len (fun x : Nat => octsR x) (units n (c.take (c.length / n * n))) (fun x _ => octsR_len _)
    have h2 : ∀ l : List UInt8, (units n l).length ≤ l.length := fun l => by
      induction l using len_ind with
      | h l ih =>
        by_cases hl : l = []
        · subst hl; simp [units_nil]
        · have hp := List.length_pos_iff.2 hl
          rw [units_step (by omega) l hl, List.length_cons]
          have := ih (l.drop n) (by simp; omega)
          simp at this
          omega
    have h3 := h2 (c.take (c.length / n * n))
    have h4 : (c.take (c.length / n * n)).length ≤ c.length := by rw [List.length_take]; omega
    omega
set_option maxRecDepth 100000 in
set_option maxHeartbeats 4000000 in
theorem rDec_no (k : Int) (v : Value) (c : List UInt8) (w : World) (hk : widthK k = none) (hv : IsB w v c) : Calls Tryz.prog 150 #[.int .i64 k, v] w (RetDe k none w) := by
  have HW : Hid (∀ W, Calls Tryz.prog 182 #[.int .i64 k] W fun e w' => e = .returned (.int .i64 (-1)) ∧ w' = W) := fun W => by have := width_any k W; unfold widR at this; rw [hk] at this; exact this
  obtain ⟨A, cp, rfl⟩ := isB_slice hv
  clear hk hv
  go_enter Tryz.func150, Tryz.ntmps150
  go_wp2_with (((go_at_call 182); (with_reducible refine (HW.out _).mono ?_); rintro e w2 ⟨rfl, hww⟩; rw [hww]; clear hww))
  refine bodyPost_ret (v := .tuple #[.agg #[.int .i64 0, .string ⟨#[]⟩], .int .i64 3]) (by simp only [results, Tryz.results150]; go_simp) rfl ?_
  exact ⟨by ((repeat' (first | (with_reducible exact Below.refl _ _) | (with_reducible assumption) | (with_reducible refine Below.setCell ?_ ?_ _) | (with_reducible refine Below.alloc ?_ ?_ _) | (with_reducible refine Below.drew ?_) | (with_reducible refine below_drewN ?_ _) | (with_reducible refine Below.step (by with_reducible assumption) ?_ ?_))) <;> (first | omega | (simp; done) | (simp; omega))), .inl ⟨rfl, 3, by decide, rfl⟩⟩

def Back (k : Int) (n : Nat) (c : List UInt8) : Prop := (∀ W, Calls Tryz.prog 151 #[.agg #[.int .i64 k, .string (bStr (backR n c))]] W (RetEu (encT k (backR n c)) W)) ∧ (∀ W u x v, IsB W u x → IsB W v c → Calls Tryz.prog 28 #[u, v] W (RetB (.bool (decide (x = c))) W)) ∧
  (encT k (backR n c) = some c → decT k c = some (backR n c)) ∧ (encT k (backR n c) ≠ some c → decT k c = none)
theorem back_any (k : Int) (n : Nat) (c : List UInt8) (hk : widthK k = some n) (hl : c.length ≤ 20000) : Back k n c := by
  have hn4 := widthK_small hk
  have hbl := backR_len n c (by omega)
  refine ⟨fun W => ?_, fun W u x v h1 h2 => bytes_any u v x c W h1 h2, (decT_back hk).2, fun hne => ?_⟩
  · have h := rEncode7 k (bStr (backR n c)) W (by show (backR n c).toArray.size ≤ _; simp; omega)
    have e : (bStr (backR n c)).data.toList = backR n c := by simp [bStr]
    rw [e] at h
    exact h.mono fun e w' hh => hh.uni
  · cases hd : decT k c with
    | none => rfl
    | some s => exact absurd ((decT_back hk).1 s hd).2 hne

set_option maxRecDepth 100000 in
set_option maxHeartbeats 4000000 in
theorem rDec_0 (k : Int) (v : Value) (c : List UInt8) (w : World) (hk : widthK k = some 0) (hv : IsB w v c) (hl : c.length ≤ 20000) : Calls Tryz.prog 150 #[.int .i64 k, v] w (RetDe k (decT k c) w) := by
  obtain ⟨hE, hY, h1, h2⟩ := back_any k 0 c hk hl
  obtain ⟨SS, hS⟩ : ∃ SS, backR 0 c = SS := ⟨_, rfl⟩
  rw [hS] at hE h1 h2
  have HE := Lib.hid hE
  have HY := Lib.hid hY
  have H1 := Lib.hid h1
  have H2 := Lib.hid h2
  have HW : Hid (∀ W, Calls Tryz.prog 182 #[.int .i64 k] W fun e w' => e = .returned (.int .i64 (0 : Nat)) ∧ w' = W) := fun W => by have := width_any k W; unfold widR at this; rw [hk] at this; exact this
  have hlen := hv.len (P := Tryz.prog) ulB
  have HV0 := Lib.hid hv
  obtain ⟨A, cp, rfl⟩ := isB_slice hv
  have hSc : SS = c := by rw [← hS]; rfl
  obtain ⟨DO, hDO⟩ : ∃ DO, decT k c = DO := ⟨_, rfl⟩
  rw [hDO] at H1 H2 ⊢
  have HL := Lib.hid hl
  have HSC := Lib.hid hSc
  clear hk hv hE hY h1 h2 hS hSc hDO hl
  have HW : Hid (∀ W, Calls Tryz.prog 182 #[.int .i64 k] W fun e w' => e = .returned (.int .i64 0) ∧ w' = W) := HW
  go_enter Tryz.func150, Tryz.ntmps150
  go_wp2_with (first | ((go_at_call 182); (with_reducible refine (HW.out _).mono ?_); rintro e w2 ⟨rfl, hww⟩; rw [hww]; clear hww) | (at_builtin; refine wpList_appB _ rfl _ _ 33 rfl (w.heap.size + 1) 5 ulB infoB _ _ rfl (OwB.nil_ _ _ _) _ c rfl (HV0.out.alloc _) ?k1 ?k2 ?_))
  case k1 => have := HL.out; simp; omega
  case k2 => simp
  intro v4 wr ho4 _ hb4
  have HS : Hid (OwB wr (w.heap.size + 1) 5 v4 SS) := by
    show OwB _ _ _ _ _
    rw [HSC.out]
    simpa using ho4
  have HB := Lib.hid (((Below.refl _ w).alloc (Nat.le_refl _) (.cells #[.int .i64 0, .string ⟨#[]⟩] 97)).trans (hb4.mono (by omega)))
  have HI : Hid (Blk wr w.heap.size 97 #[.int .i64 0, .string ⟨#[]⟩]) := (hb4.block w.heap.size (by omega)).trans (Blk.new w _ _)
  have HVr := Lib.hid (HV0.out.below HB.out)
  go_wp2_with fail
  go_loopw [7, 8] (fun out ix wq => out = v4 ∧ ix = .int .i64 0 ∧ wq = wr) (fun _ _ _ => 0)
  case atStart => exact ⟨rfl, rfl, rfl⟩
  case round =>
    obtain ⟨rfl, rfl, rfl⟩ := hrel
    have hcv := isB_bstr HS.out.isB
    have qZ := HI.out.q
    have fZ := HI.out.fz
    have lZ := HI.out.lt
    clear ho4 hb4
    obtain ⟨S, hSS⟩ : ∃ S, bStr SS = S := ⟨_, rfl⟩
    rw [hSS] at hcv HE
    have HSS := Lib.hid hSS
    clear hSS
    go_upto_region 18 with (((go_at_call 151); (with_reducible refine (HE.out _).mono ?_); rintro e w5 ⟨A5, n5, k5, ec, rfl, hb5, hres⟩; have I5 := Blk.call (HI.out.alloc _) hb5; have T5 := Blk.call (Blk.new _ 97 #[.int .i64 k, .string S]) hb5))
    have q5 := I5.q
    have f5 := I5.fz
    have l5 := I5.lt
    have p5 := T5.q
    have HT5 := Lib.hid T5
    have HI5 := Lib.hid I5
    have HB5 := Lib.hid ((HB.out.alloc HB.out.size _).trans (hb5.mono (by have := HB.out.size; simp; omega)))
    have HV5 := Lib.hid ((HVr.out.alloc (.cells #[.int .i64 k, .string S] 97)).below hb5)
    clear hb5 qZ fZ lZ I5 T5 hcv
    rcases hres with ⟨hn, rfl⟩ | ⟨x, hx, rfl, hvx⟩
    · have hd := H2.out (by rw [hn]; simp)
      have HD := Lib.hid hd
      clear hn hd
      go_wp2_with fail
      refine bodyPost_ret (v := .tuple #[.agg #[.int .i64 0, .string ⟨#[]⟩], .int .i64 6]) (by simp only [results, Tryz.results150]; go_simp) rfl ?_
      have b5 := HB5.out
      exact ⟨by ((repeat' (first | (with_reducible exact Below.refl _ _) | (with_reducible assumption) | (with_reducible refine Below.setCell ?_ ?_ _) | (with_reducible refine Below.alloc ?_ ?_ _) | (with_reducible refine Below.drew ?_) | (with_reducible refine below_drewN ?_ _) | (with_reducible refine Below.step (by with_reducible assumption) ?_ ?_))) <;> (first | omega | (simp; done) | (simp; omega))), .inl ⟨HD.out, 6, by decide, rfl⟩⟩
    · have HX := Lib.hid hvx
      clear hvx
      have HYx := Lib.hid (HY.out w5 (.slice A5 n5 k5) x _ HX.out HV5.out)
      by_cases hxc : x = c
      · have hd := H1.out (by rw [hx, hxc])
        have HD := Lib.hid hd
        rw [decide_eq_true hxc] at HYx
        clear hx hxc hd
        go_wp2_with (((go_at_call 28); (with_reducible refine (HYx.out).mono ?_); rintro e w6 ⟨rfl, hb6⟩; have I6 := Blk.call HI5.out hb6; have T6 := Blk.call HT5.out hb6; have q6 := I6.q; have f6 := I6.fz; have l6 := I6.lt; have p6 := T6.q; have HB6 := Lib.hid (HB5.out.trans (hb6.mono HB5.out.size)); clear hb6))
        refine bodyPost_ret (v := .tuple #[.agg #[.int .i64 k, .string S], .int .i64 0]) (by simp only [results, Tryz.results150]; go_simp) rfl ?_
        have b6 := HB6.out
        exact ⟨by ((repeat' (first | (with_reducible exact Below.refl _ _) | (with_reducible assumption) | (with_reducible refine Below.setCell ?_ ?_ _) | (with_reducible refine Below.alloc ?_ ?_ _) | (with_reducible refine Below.drew ?_) | (with_reducible refine below_drewN ?_ _) | (with_reducible refine Below.step (by with_reducible assumption) ?_ ?_))) <;> (first | omega | (simp; done) | (simp; omega))), .inr ⟨SS, HD.out, by rw [HSS.out]⟩⟩
      · have hd := H2.out (by rw [hx]; exact fun h => hxc (Option.some.inj h))
        have HD := Lib.hid hd
        rw [decide_eq_false hxc] at HYx
        clear hx hxc hd
        go_wp2_with (((go_at_call 28); (with_reducible refine (HYx.out).mono ?_); rintro e w6 ⟨rfl, hb6⟩; have I6 := Blk.call HI5.out hb6; have q6 := I6.q; have f6 := I6.fz; have l6 := I6.lt; have HB6 := Lib.hid (HB5.out.trans (hb6.mono HB5.out.size)); clear hb6))
        refine bodyPost_ret (v := .tuple #[.agg #[.int .i64 0, .string ⟨#[]⟩], .int .i64 6]) (by simp only [results, Tryz.results150]; go_simp) rfl ?_
        have b6 := HB6.out
        exact ⟨by ((repeat' (first | (with_reducible exact Below.refl _ _) | (with_reducible assumption) | (with_reducible refine Below.setCell ?_ ?_ _) | (with_reducible refine Below.alloc ?_ ?_ _) | (with_reducible refine Below.drew ?_) | (with_reducible refine below_drewN ?_ _) | (with_reducible refine Below.step (by with_reducible assumption) ?_ ?_))) <;> (first | omega | (simp; done) | (simp; omega))), .inl ⟨HD.out, 6, by decide, rfl⟩⟩

def DoRel (n : Nat) (c : List UInt8) (w1 : World) (b : Nat) (out ix : Value) (wr : World) : Prop := ∃ q i : Nat, i = q * n ∧ ix = .int .i64 (i : Int) ∧ i ≤ c.length ∧ OwB wr b 5 out ((units n (c.take i)).flatMap (fun x : Nat => octsR x)) ∧ Below b w1 wr
def DiRel (n i : Nat) (c : List UInt8) (xx kk : Value) : Prop := ∃ j : Nat, j ≤ n ∧ kk = .int .i64 (j : Int) ∧ xx = .int .i64 ((unitN ((c.drop i).take j) : Nat) : Int)
theorem unit_snoc (c : List UInt8) (i j : Nat) (h : i + j < c.length) : ((unitN ((c.drop i).take (j + 1)) : Nat) : Int) = ((unitN ((c.drop i).take j) : Nat) : Int) * 256 + bat c (i + j) := by
  have hl : j < (c.drop i).length := by rw [List.length_drop]; omega
  rw [List.take_succ_eq_append_getElem hl, unitN_snoc, bat_eq c (i + j) h]
  have : (c.drop i)[j]'hl = c[i + j] := by rw [List.getElem_drop]
  rw [this]
  unfold bi
  omega
theorem units_more (c : List UInt8) (n q i : Nat) (hn : 0 < n) (hi : i = q * n) (h : i + n ≤ c.length) : (units n (c.take (i + n))).flatMap (fun x : Nat => octsR x) = (units n (c.take i)).flatMap (fun x : Nat => octsR x) ++ octsR ((unitN ((c.drop i).take n) : Nat) : Int) := by
  have h1 : c.take (i + n) = c.take i ++ (c.drop i).take n := List.take_add
  have h2 : units n (c.take i ++ (c.drop i).take n) = units n (c.take i) ++ units n ((c.drop i).take n) := units_app hn _ _ (by rw [List.length_take, Nat.min_eq_left (by omega), hi]; exact Nat.mul_mod_left q n)
  have h3 : units n ((c.drop i).take n) = [unitN ((c.drop i).take n)] := units_one hn _ (by rw [List.length_take, List.length_drop]; omega)
  rw [h1, h2, h3, List.flatMap_append]
  simp only [List.flatMap_cons, List.flatMap_nil, List.append_nil]
set_option maxRecDepth 100000 in
set_option maxHeartbeats 8000000 in
theorem rDec_w (k : Int) (m : Nat) (v : Value) (c : List UInt8) (w : World) (hk : widthK k = some (m + 1)) (hv : IsB w v c) (hl : c.length ≤ 20000) : Calls Tryz.prog 150 #[.int .i64 k, v] w (RetDe k (decT k c) w) := by
  have hn4 := widthK_small hk
  obtain ⟨n, hn⟩ : ∃ n, m + 1 = n := ⟨_, rfl⟩
  rw [hn] at hk
  have hn0 : 0 < n := by omega
  have hnn4 : n ≤ 4 := by omega
  clear hn hn4
  obtain ⟨hE, hY, h1, h2⟩ := back_any k n c hk hl
  obtain ⟨SS, hS⟩ : ∃ SS, backR n c = SS := ⟨_, rfl⟩
  rw [hS] at hE h1 h2
  have HE := Lib.hid hE
  have HY := Lib.hid hY
  have H1 := Lib.hid h1
  have H2 := Lib.hid h2
  have HW : Hid (∀ W, Calls Tryz.prog 182 #[.int .i64 k] W fun e w' => e = .returned (.int .i64 (n : Nat)) ∧ w' = W) := fun W => by have := width_any k W; unfold widR at this; rw [hk] at this; exact this
  have hlen := hv.len (P := Tryz.prog) ulB
  have HV0 := Lib.hid hv
  obtain ⟨DO, hDO⟩ : ∃ DO, decT k c = DO := ⟨_, rfl⟩
  rw [hDO] at H1 H2 ⊢
  have HL := Lib.hid hl
  have HSB := Lib.hid hS
  have hn0I : (0 : Int) < n := by omega
  have hn4I : (n : Int) ≤ 4 := by omega
  have hnz : ((n : Int) == 0) = false := beq_eq_false_iff_ne.2 (by omega)
  have hnl : decide ((n : Int) < 0) = false := decide_eq_false (by omega)
  have hlI : (c.length : Int) ≤ 20000 := by omega
  have HNN := Lib.hid hn0
  have HN4 := Lib.hid hnn4
  have hat := fun (W : World) (h : IsB W v c) (i : Int) (h0 : 0 ≤ i) (h1 : i < c.length) => h.at_ (P := Tryz.prog) ulB szB .i64 h0 h1
  have HAT := Lib.hid hat
  obtain ⟨A, cp, rfl⟩ := isB_slice hv
  clear hk hv hE hY h1 h2 hS hDO hl hat hn0 hnn4
  go_enter Tryz.func150, Tryz.ntmps150
  go_wp2_with (((go_at_call 182); (with_reducible refine (HW.out _).mono ?_); rintro e w2 ⟨rfl, hww⟩; rw [hww]; clear hww))
  have HV1 := Lib.hid (HV0.out.alloc (.cells #[.int .i64 0, .string ⟨#[]⟩] 97))
  have HBW := Lib.hid ((Below.refl _ w).alloc (Nat.le_refl _) (.cells #[.int .i64 0, .string ⟨#[]⟩] 97))
  have hI1 : Blk (w.alloc (.cells #[.int .i64 0, .string ⟨#[]⟩] 97)) w.heap.size 97 #[.int .i64 0, .string ⟨#[]⟩] := Blk.new w _ _
  have HI1 := Lib.hid hI1
  have hsz1 : (w.alloc (.cells #[.int .i64 0, .string ⟨#[]⟩] 97)).heap.size = w.heap.size + 1 := by simp
  have HSZ := Lib.hid hsz1
  clear hI1 hsz1
  generalize w.alloc (.cells #[.int .i64 0, .string ⟨#[]⟩] 97) = w1 at *
  go_loopw [7, 8] (fun out ix wr => DoRel n c w1 w1.heap.size out ix wr) (fun _ ix _ => c.length + 1 - (intOf ix).toNat)
  case atStart => exact ⟨0, 0, by simp, rfl, Nat.zero_le _, by simpa [units_nil] using OwB.nil_ _ _ _, Below.refl _ _⟩
  case round =>
    obtain ⟨q, i, hqi, rfl, hil, how, hbel⟩ := hrel
    have HQI := Lib.hid hqi
    have HOW := Lib.hid how
    have HBR := Lib.hid hbel
    have HVr := Lib.hid (HV1.out.below hbel)
    have HI := Lib.hid (Blk.call HI1.out hbel)
    clear how hbel hqi
    by_cases hlt : i + n ≤ c.length
    · have hltI : (i : Int) + n ≤ c.length := by omega
      have HLT := Lib.hid hlt
      go_wp2_with fail
      go_loop [9, 10] (fun xx kk => DiRel n i c xx kk) (fun _ kk => n + 1 - (intOf kk).toNat)
      case atStart => exact ⟨0, Nat.zero_le _, rfl, by simp [unitN]⟩
      case round =>
        obtain ⟨j, hj, rfl, rfl⟩ := hrel
        have hxb := unitN_lt ((c.drop i).take j)
        have hxl : ((c.drop i).take j).length = j := by rw [List.length_take, List.length_drop]; have := HLT.out; omega
        rw [hxl] at hxb
        by_cases hjn : j < n
        · obtain ⟨p, hp⟩ : ∃ p, p = i + j := ⟨_, rfl⟩
          have hpl : p < c.length := by have := HLT.out; omega
          have hpI : (i : Int) + (j : Int) = (p : Int) := by omega
          obtain ⟨b2, o2, hi2, hl2, hc2⟩ := HAT.out wr HVr.out (p : Int) (by omega) (by omega)
          rw [Int.toNat_natCast] at hc2
          have hy0 := bat_pos c p
          have hy1 := bat_lt c p
          have hp3 : (256 : Nat) ^ j ≤ 256 ^ 3 := Nat.pow_le_pow_right (by decide) (by have := HN4.out; omega)
          have hp4 : (256 : Nat) ^ 3 = 16777216 := by decide
          have hsn := unit_snoc c i j (by omega)
          rw [← hp] at hsn
          obtain ⟨x, hx⟩ : ∃ x, unitN ((c.drop i).take j) = x := ⟨_, rfl⟩
          rw [hx] at hxb hsn
          have hxI : (x : Int) < 16777216 := by omega
          have hjI : (j : Int) < n := by omega
          have HSN := Lib.hid hsn
          rw [hx]
          clear hp hxb hxl hp3 hp4 hsn hx hpl
          generalize bat c p = y at *
          go_wp2_with fail
          go_round
          case rel => exact ⟨j + 1, by omega, by go_num, by rw [HSN.out]⟩
          case measure => simp [intOf]; omega
        · have hje : j = n := by omega
          subst hje
          have hp3 : (256 : Nat) ^ j ≤ 256 ^ 4 := Nat.pow_le_pow_right (by decide) (by have := HN4.out; omega)
          have hp4 : (256 : Nat) ^ 4 = 4294967296 := by decide
          obtain ⟨x, hx⟩ : ∃ x, unitN ((c.drop i).take j) = x := ⟨_, rfl⟩
          rw [hx] at hxb
          have hxI : x < 1099511627776 := by omega
          have HO : Hid (∀ W, Calls Tryz.prog 192 #[.int .i64 (x : Int)] W (RetO 5 (octsR (x : Int)) W)) := fun W => octets_any x W hxI
          have hum := units_more c j q i HNN.out HQI.out HLT.out
          rw [hx] at hum
          have HUM := Lib.hid hum
          have hob : ((units j (c.take i)).flatMap (fun x : Nat => octsR x)).length ≤ 80000 := by
            have h1 := backR_len j (c.take i) (by have := HN4.out; omega)
            have h2 : (c.take i).length = i := by rw [List.length_take]; omega
            unfold backR at h1
            rw [if_neg (by have := HNN.out; omega), h2, HQI.out, Nat.mul_div_cancel _ HNN.out, ← HQI.out, List.take_take, Nat.min_self] at h1
            have := HL.out
            omega
          have HOB := Lib.hid hob
          have HOX := Lib.hid (octsR_len (x : Int))
          have hgeI : (j : Int) ≤ j := Int.le_refl _
          rw [hx]
          clear hxb hxl hp3 hp4 hx hum hob hjn
          generalize hLg : (units j (c.take i)).flatMap (fun x : Nat => octsR x) = LL at *
          go_wp2_with (first | ((go_at_call 192); (with_reducible refine (HO.out _).mono ?_); rintro e w3 ⟨v3, rfl, ho3, hbw3⟩; have HO3 := Lib.hid ho3; have HB3 := Lib.hid hbw3; clear ho3 hbw3) | (at_builtin; refine wpList_appB _ rfl _ _ 33 rfl w1.heap.size 5 ulB infoB _ _ rfl (HOW.out.below HB3.out) _ (octsR (x : Int)) rfl HO3.out.isB ?k1 ?k2 ?_))
          case k1 => have := HOB.out; have := HOX.out; omega
          case k2 => have := HB3.out.size; have := HBR.out.size; omega
          intro v4 w4 ho4 _ hb4
          have HO4 := Lib.hid ho4
          have HB4 := Lib.hid ((HBR.out.trans (HB3.out.mono HBR.out.size)).trans hb4)
          clear ho4 hb4
          go_wp2
          go_roundw
          case rel => exact ⟨q + 1, i + j, by rw [HQI.out, Nat.succ_mul], by (first | go_num | (congr 1; omega)), HLT.out, by rw [HUM.out]; exact HO4.out, HB4.out⟩
          case measure => simp [intOf]; have := HNN.out; omega
    · have hgeI : (c.length : Int) < (i : Int) + n := by omega
      have hiI : (i : Int) ≤ 20000 := by omega
      have hie : i = c.length / n * n := by
        have h1 := HQI.out
        have h2 := HNN.out
        have h3 : c.length / n = q := by
          apply Nat.div_eq_of_lt_le
          · omega
          · rw [Nat.succ_mul]; omega
        rw [h3]; exact h1
      have HSS0 : Hid ((units n (c.take i)).flatMap (fun x : Nat => octsR x) = SS) := by
        show _ = _
        rw [← HSB.out]
        unfold backR
        rw [if_neg (by have := HNN.out; omega), ← hie]
      have how := HOW.out
      rw [HSS0.out] at how
      have HS := Lib.hid how
      have HB := Lib.hid (HBW.out.trans (HBR.out.mono (by have := HSZ.out; omega)))
      have hcv := isB_bstr HS.out.isB
      have qZ := HI.out.q
      have fZ := HI.out.fz
      have lZ := HI.out.lt
      clear how hie hil
      obtain ⟨S, hSS⟩ : ∃ S, bStr SS = S := ⟨_, rfl⟩
      rw [hSS] at hcv HE
      have HSS := Lib.hid hSS
      clear hSS
      go_upto_region 18 with (((go_at_call 151); (with_reducible refine (HE.out _).mono ?_); rintro e w5 ⟨A5, n5, k5, ec, rfl, hb5, hres⟩; have I5 := Blk.call (HI.out.alloc _) hb5; have T5 := Blk.call (Blk.new _ 97 #[.int .i64 k, .string S]) hb5))
      have q5 := I5.q
      have f5 := I5.fz
      have l5 := I5.lt
      have p5 := T5.q
      have HT5 := Lib.hid T5
      have HI5 := Lib.hid I5
      have HB5 := Lib.hid ((HB.out.alloc HB.out.size _).trans (hb5.mono (by have := HB.out.size; simp; omega)))
      have HV5 := Lib.hid ((HVr.out.alloc (.cells #[.int .i64 k, .string S] 97)).below hb5)
      clear hb5 qZ fZ lZ I5 T5 hcv
      rcases hres with ⟨hn, rfl⟩ | ⟨x, hx, rfl, hvx⟩
      · have hd := H2.out (by rw [hn]; simp)
        have HD := Lib.hid hd
        clear hn hd
        go_wp2_with fail
        refine bodyPost_ret (v := .tuple #[.agg #[.int .i64 0, .string ⟨#[]⟩], .int .i64 6]) (by simp only [results, Tryz.results150]; go_simp) rfl ?_
        have b5 := HB5.out
        exact ⟨by ((repeat' (first | (with_reducible exact Below.refl _ _) | (with_reducible assumption) | (with_reducible refine Below.setCell ?_ ?_ _) | (with_reducible refine Below.alloc ?_ ?_ _) | (with_reducible refine Below.drew ?_) | (with_reducible refine below_drewN ?_ _) | (with_reducible refine Below.step (by with_reducible assumption) ?_ ?_))) <;> (first | omega | (simp; done) | (simp; omega))), .inl ⟨HD.out, 6, by decide, rfl⟩⟩
      · have HX := Lib.hid hvx
        clear hvx
        have HYx := Lib.hid (HY.out w5 (.slice A5 n5 k5) x _ HX.out HV5.out)
        by_cases hxc : x = c
        · have hd := H1.out (by rw [hx, hxc])
          have HD := Lib.hid hd
          rw [decide_eq_true hxc] at HYx
          clear hx hxc hd
          go_wp2_with (((go_at_call 28); (with_reducible refine (HYx.out).mono ?_); rintro e w6 ⟨rfl, hb6⟩; have I6 := Blk.call HI5.out hb6; have T6 := Blk.call HT5.out hb6; have q6 := I6.q; have f6 := I6.fz; have l6 := I6.lt; have p6 := T6.q; have HB6 := Lib.hid (HB5.out.trans (hb6.mono HB5.out.size)); clear hb6))
          refine bodyPost_ret (v := .tuple #[.agg #[.int .i64 k, .string S], .int .i64 0]) (by simp only [results, Tryz.results150]; go_simp) rfl ?_
          have b6 := HB6.out
          exact ⟨by ((repeat' (first | (with_reducible exact Below.refl _ _) | (with_reducible assumption) | (with_reducible refine Below.setCell ?_ ?_ _) | (with_reducible refine Below.alloc ?_ ?_ _) | (with_reducible refine Below.drew ?_) | (with_reducible refine below_drewN ?_ _) | (with_reducible refine Below.step (by with_reducible assumption) ?_ ?_))) <;> (first | omega | (simp; done) | (simp; omega))), .inr ⟨SS, HD.out, by rw [HSS.out]⟩⟩
        · have hd := H2.out (by rw [hx]; exact fun h => hxc (Option.some.inj h))
          have HD := Lib.hid hd
          rw [decide_eq_false hxc] at HYx
          clear hx hxc hd
          go_wp2_with (((go_at_call 28); (with_reducible refine (HYx.out).mono ?_); rintro e w6 ⟨rfl, hb6⟩; have I6 := Blk.call HI5.out hb6; have q6 := I6.q; have f6 := I6.fz; have l6 := I6.lt; have HB6 := Lib.hid (HB5.out.trans (hb6.mono HB5.out.size)); clear hb6))
          refine bodyPost_ret (v := .tuple #[.agg #[.int .i64 0, .string ⟨#[]⟩], .int .i64 6]) (by simp only [results, Tryz.results150]; go_simp) rfl ?_
          have b6 := HB6.out
          exact ⟨by ((repeat' (first | (with_reducible exact Below.refl _ _) | (with_reducible assumption) | (with_reducible refine Below.setCell ?_ ?_ _) | (with_reducible refine Below.alloc ?_ ?_ _) | (with_reducible refine Below.drew ?_) | (with_reducible refine below_drewN ?_ _) | (with_reducible refine Below.step (by with_reducible assumption) ?_ ?_))) <;> (first | omega | (simp; done) | (simp; omega))), .inl ⟨HD.out, 6, by decide, rfl⟩⟩

theorem rDecode7 (k : Int) (v : Value) (c : List UInt8) (w : World) (hv : IsB w v c) (hl : c.length ≤ 20000) : Calls Tryz.prog 150 #[.int .i64 k, v] w (RetDe k (decT k c) w) := by
  cases hk : widthK k with
  | none =>
    have : decT k c = none := by unfold decT; rw [hk]
    rw [this]
    exact rDec_no k v c w hk hv
  | some n =>
    cases n with
    | zero => exact rDec_0 k v c w hk hv hl
    | succ m => exact rDec_w k m v c w hk hv hl
end Go.Proofs.YtlmnmgokfnnbbaaGreatDoor
end
