/- The parts EncT of one proof, one behind the other. -/
import Derived.Test.YtjjkimjdmpeddaaGreatDoorJ25
import Derived.Test.YtjjkimjdmpeddaaGreatDoorJ26
import Derived.Lib.ConvBytes

/- Walk over charset.Encode. -/
section
set_option linter.unusedSimpArgs false
set_option linter.unusedVariables false
namespace Go.Proofs.YtjjkimjdmpeddaaGreatDoor
open Go.RowKit Go.Cr

/-- Octets, or ErrInvalid. -/
def RetEn (o : Option (List UInt8)) (w : World) (e : Ending) (w' : World) : Prop :=
  Below w.heap.size w w' ∧ ((o = none ∧ e = .returned (.tuple #[.slice none 0 0, .int .i64 8])) ∨ ∃ c v, o = some c ∧ e = .returned (.tuple #[v, .int .i64 0]) ∧ IsB w' v c)
def RetEnY (c : List UInt8) (w : World) (e : Ending) (w' : World) : Prop := ∃ v, e = .returned (.tuple #[v, .int .i64 0]) ∧ IsB w' v c ∧ Below w.heap.size w w'
theorem RetEn.yes {c : List UInt8} {w : World} {e : Ending} {w' : World} (h : RetEn (some c) w e w') : RetEnY c w e w' := by
  obtain ⟨hb, ⟨h, _⟩ | ⟨c', v, h, he, hv⟩⟩ := h
  · cases h
  · injection h with h; subst h; exact ⟨v, he, hv, hb⟩
theorem RetEn.no {w : World} {e : Ending} {w' : World} (h : RetEn none w e w') : RetB (.tuple #[.slice none 0 0, .int .i64 8]) w e w' := by
  obtain ⟨hb, ⟨_, he⟩ | ⟨c', v, h, _⟩⟩ := h
  · exact ⟨he, hb⟩
  · cases h
theorem below_bytes {B : Nat} {a w : World} (h : Below B a w) (hB : B ≤ w.heap.size) (e : TypeId) (s : ByteArray) : Below B a (Lib.bytesWorld w e s) :=
  ⟨h.os, h.tape, h.output, by rw [Lib.bytesWorld_size]; exact Nat.le_succ_of_le h.size, fun i hi => (Lib.bytesWorld_at_old w e s i (by omega)).trans (h.block i hi)⟩
theorem isB_bytes (w : World) (e : TypeId) (s : ByteArray) (c : Nat) (h1 : s.size ≤ c) (h2 : c ≤ maxLen) : IsB (Lib.bytesWorld w e s) (.slice (some ⟨w.heap.size, 0, none⟩) s.size c) s.data.toList :=
  ⟨_, c, rfl, h1, h2, fun _ => ⟨w.heap.size, 0, rfl, by rw [Lib.bytesWorld_size]; omega, fun j hj => by rw [Nat.zero_add]; exact Lib.bytesWorld_cell w e s j hj⟩⟩

set_option maxRecDepth 100000 in
theorem fieldF (f : Value) (n : Int) (W : World) : (Instr.field 147 (.agg #[f, .int .i64 n]) 1).run Tryz.prog W = .ok (.int .i64 n) W := by rfl
set_option maxRecDepth 100000 in
set_option maxHeartbeats 4000000 in
theorem encT_no (k : Int) (s : ByteArray) (w : World) (hK : (widthK k).isSome = true → KindOk k) (hG : Glo w) (hs : s.size ≤ 1000000) (he : validT k s.data.toList = false) : Calls Tryz.prog 89 #[.agg #[.int .i64 k, .string s]] w (RetEn none w) := by
  have HV : Hid (∀ W, Glo W → Calls Tryz.prog 122 #[.agg #[.int .i64 k, .string s]] W (RetB (.bool false) W)) := fun W h => by have := valid_any k s W hK h (by omega); rw [he] at this; exact this
  have HG := Lib.hid hG
  clear hK hG hs he
  go_enter Tryz.func89, Tryz.ntmps89
  go_wp2_with (((go_at_call 122); (with_reducible refine (HV.out _ (HG.out.alloc _)).mono ?_); rintro e w1 ⟨rfl, hbw1⟩))
  go_ret2
  exact ⟨by ((repeat' (first | (with_reducible exact Below.refl _ _) | (with_reducible assumption) | (with_reducible refine Below.setCell ?_ ?_ _) | (with_reducible refine Below.alloc ?_ ?_ _) | (with_reducible refine Below.drew ?_) | (with_reducible refine below_drewN ?_ _) | (with_reducible refine Below.step (by with_reducible assumption) ?_ ?_))) <;> (first | omega | (simp; done) | (simp; omega))), .inl ⟨rfl, rfl⟩⟩

set_option maxRecDepth 100000 in
set_option maxHeartbeats 4000000 in
theorem encT_zero (k : Int) (s : ByteArray) (w : World) (hk : widthK k = some 0) (hK : KindOk k) (hG : Glo w) (hs : s.size ≤ 1000000) (he : validT k s.data.toList = true) : Calls Tryz.prog 89 #[.agg #[.int .i64 k, .string s]] w (RetEn (some s.data.toList) w) := by
  have HV : Hid (∀ W, Glo W → Calls Tryz.prog 122 #[.agg #[.int .i64 k, .string s]] W (RetB (.bool true) W)) := fun W h => by have := valid_any k s W (fun _ => hK) h (by omega); rw [he] at this; exact this
  have HR : Hid (∀ W, Calls Tryz.prog 123 #[] W (RetFy k 0 W)) := formsYes k 0 hk hK
  have HG := Lib.hid hG
  have HS := Lib.hid hs
  clear hk hK hG hs he
  go_enter Tryz.func89, Tryz.ntmps89
  go_wp2_with (((go_at_call 122); (with_reducible refine (HV.out _ (HG.out.alloc _)).mono ?_); rintro e w1 ⟨rfl, hbw1⟩; have I0 := Blk.call (Blk.new w 27 #[.int .i64 k, .string s]) hbw1; have qI := I0.q; have lI := I0.lt))
  go_region_held3 (fun W' => W'.cell? ⟨w.heap.size, 0, none⟩ = some (.int .i64 k))
    (first | go_keep | exact (hbw2.cell (p := ⟨w.heap.size, 0, none⟩) lI).trans (by simp [*]) | exact (Blk.q I1 0).trans rfl | (trace_state; fail))
    (((go_at_call 123); (with_reducible refine (HR.out _).mono ?_); rintro e w2 ⟨gm, g, lb, rfl, hgm, hbw2, hF, hA⟩; have k1 := hF.look0; have k2 := fieldF (.func (.func g) #[] lb) 0; have k3 := Lib.run_convert_string_bytes (P := Tryz.prog) w2 9 32 5 s ulStr ulB ulU8; have I1 := Blk.call (Blk.drew I0) hbw2; have qI1 := I1.q; clear hF hA))
  go_wp2_with fail
  go_ret2
  have s1 := hbw1.size
  have s2 := hbw2.size
  simp at s1 s2
  have b1 : Below w.heap.size w w1 := ((Below.refl _ w).alloc (Nat.le_refl _) _).trans (hbw1.mono (by simp))
  have b12 : Below w1.heap.size w1 w2 := (Below.refl w1.heap.size w1).drew.trans hbw2
  have b2 : Below w.heap.size w w2 := b1.trans (b12.mono (by omega))
  exact ⟨below_bytes b2 (by omega) _ _, .inr ⟨_, _, rfl, rfl, isB_bytes _ _ _ _ (grownCap_ge _ _ _ _) (grownCap_le_maxLen _ _ _ _ (by have := HS.out; unfold maxLen; omega))⟩⟩

theorem beW_at : ∀ (w c j : Nat), j < w → (beW w c)[j]? = some (UInt8.ofNat (c / 256 ^ (w - 1 - j) % 256)) := by
  intro w
  induction w with
  | zero => intro c j h; omega
  | succ w ih =>
    intro c j h
    simp only [beW]
    by_cases hj : j < w
    · rw [List.getElem?_append_left (by rw [beW_len]; exact hj), ih (c / 256) j hj]
      congr 2
      rw [Nat.div_div_eq_div_mul, show w + 1 - 1 - j = (w - 1 - j) + 1 by omega, Nat.pow_succ, Nat.mul_comm]
    · obtain rfl : j = w := by omega
      rw [List.getElem?_append_right (by rw [beW_len]; omega), beW_len]
      simp
theorem beW_take (w c j : Nat) (h : j < w) : (beW w c).take (j + 1) = (beW w c).take j ++ [UInt8.ofNat (c / 256 ^ (w - 1 - j) % 256)] := by
  have hl : j < (beW w c).length := by rw [beW_len]; exact h
  rw [List.take_succ_eq_append_getElem hl]
  have := beW_at w c j h
  rw [List.getElem?_eq_getElem hl] at this
  injection this with this
  rw [this]

/-- One code point from the front of what is left. -/
theorem pts_head {s : ByteArray} {pos : Nat} {rest : List Nat} (hp : pos < s.size) (h : pts (s.data.toList.drop pos) = some rest) :
    ∃ rest', rest = (Utf8.decode s pos).1 :: rest' ∧ pts (s.data.toList.drop (pos + (Utf8.decode s pos).2)) = some rest' ∧ okc ((Utf8.decode s pos).1 : Int) = true ∧ pos + (Utf8.decode s pos).2 ≤ s.size ∧ 1 ≤ (Utf8.decode s pos).2 := by
  have h2 : s.data.toList.length = s.size := rfl
  have hne : s.data.toList.drop pos ≠ [] := fun e => by
    have h1 := congrArg List.length e
    simp only [List.length_drop, List.length_nil] at h1
    omega
  have hdl := Lib.decodeL_drop s pos
  have hwid : pos + (Utf8.decode s pos).2 ≤ s.size := by
    have h1 := Lib.decodeL_le (s.data.toList.drop pos) hne
    rw [hdl, List.length_drop] at h1
    omega
  have hwd1 : 1 ≤ (Utf8.decode s pos).2 := by have := Lib.decodeL_width (s.data.toList.drop pos); rw [hdl] at this; exact this
  rw [pts_step _ hne, hdl] at h
  split at h
  · cases h
  · rename_i hv
    rw [List.drop_drop] at h
    cases hq : pts (s.data.toList.drop (pos + (Utf8.decode s pos).2)) with
    | none => rw [hq] at h; cases h
    | some t =>
      rw [hq] at h
      injection h with h
      exact ⟨t, h.symm, rfl, by have := dec_ok (s.data.toList.drop pos) (by rw [hdl]; exact hv); rw [hdl] at this; exact this, hwid, hwd1⟩
/-- A row of the call's own, where the blocks from its base on have not turned. -/
theorem owB_far {w w' : World} {base : Nat} {t : TypeId} {v : Value} {l : List UInt8} (h : OwB w base t v l) {b : Nat} (hb : b ≤ base) (hk : ∀ j, base ≤ j → w'.heap[j]? = w.heap[j]?) : OwB w' base t v l := by
  obtain ⟨h1, h2 | ⟨g, cap, cur, hv, hg, hh, r⟩⟩ := h
  · exact ⟨h1, .inl h2⟩
  · exact ⟨h1, .inr ⟨g, cap, cur, hv, hg, (hk g hg).trans hh, r⟩⟩

theorem byte_at (c i : Nat) : ((c : Int) / 2 ^ (8 * i) % 256) = bi (UInt8.ofNat (c / 256 ^ i % 256)) := by
  rw [bi_ofNat, Nat.mod_mod, show (256 : Nat) ^ i = 2 ^ (8 * i) by rw [show (256 : Nat) = 2 ^ 8 by rfl, ← Nat.pow_mul]]
  rw [show ((2 : Int) ^ (8 * i)) = ((2 ^ (8 * i) : Nat) : Int) by simp]
  generalize 2 ^ (8 * i) = m
  omega

def EncRel (n : Nat) (s : ByteArray) (cs : List Nat) (r : Nat) (wq : World) (out : Value) (wr : World) : Prop :=
  ∃ (pos : Nat) (pre rest : List Nat), cs = pre ++ rest ∧ pts (s.data.toList.drop pos) = some rest ∧ pos ≤ s.size ∧ wr.heap[r]? = some (.stringIter s pos) ∧ OwB wr (r + 1) 5 out (pre.flatMap (beW n)) ∧ Below r wq wr
def EncIn (n c : Nat) (L : List UInt8) (r : Nat) (wq : World) (out i : Value) (wr : World) : Prop :=
  ∃ j : Nat, j ≤ n + 1 ∧ i = .int .i64 ((n : Int) - j) ∧ OwB wr (r + 1) 5 out (L ++ (beW (n + 1) c).take j) ∧ Below (r + 1) wq wr
set_option maxRecDepth 100000 in
set_option maxHeartbeats 4000000 in
theorem encT_width (k : Int) (n : Nat) (s : ByteArray) (w : World) (hk : widthK k = some (n + 1)) (hK : KindOk k) (hG : Glo w) (hs : s.size ≤ 1000000) (cs : List Nat) (hp : pts s.data.toList = some cs) (he : validT k s.data.toList = true) : Calls Tryz.prog 89 #[.agg #[.int .i64 k, .string s]] w (RetEn (some (cs.flatMap (beW (n + 1)))) w) := by
  have HV : Hid (∀ W, Glo W → Calls Tryz.prog 122 #[.agg #[.int .i64 k, .string s]] W (RetB (.bool true) W)) := fun W h => by have := valid_any k s W (fun _ => hK) h (by omega); rw [he] at this; exact this
  have HR : Hid (∀ W, Calls Tryz.prog 123 #[] W (RetFy k (n + 1) W)) := formsYes k (n + 1) hk hK
  have HG := Lib.hid hG
  have HS := Lib.hid hs
  have HP := Lib.hid hp
  have HN := Lib.hid (widthK_small hk)
  have hn4 : n < 4 := by have := widthK_small hk; omega
  have hn4' : ((n + 1 : Nat) : Int) = (n : Int) + 1 := by omega
  have hnz : ((n : Int) + 1 == 0) = false := beq_eq_false_iff_ne.2 (by omega)
  clear hk hK hG hs he hp
  obtain ⟨R, hR⟩ : ∃ R, cs.flatMap (beW (n + 1)) = R := ⟨_, rfl⟩
  rw [hR]
  have HRR := Lib.hid hR
  clear hR
  go_enter Tryz.func89, Tryz.ntmps89
  go_wp2_with (((go_at_call 122); (with_reducible refine (HV.out _ (HG.out.alloc _)).mono ?_); rintro e w1 ⟨rfl, hbw1⟩; have I0 := Blk.call (Blk.new w 27 #[.int .i64 k, .string s]) hbw1; have qI := I0.q; have lI := I0.lt))
  go_region_held3 (fun W' => W'.cell? ⟨w.heap.size, 0, none⟩ = some (.int .i64 k))
    (first | go_keep | exact (hbw2.cell (p := ⟨w.heap.size, 0, none⟩) lI).trans (by simp [*]) | exact (Blk.q I1 0).trans rfl | (trace_state; fail))
    (((go_at_call 123); (with_reducible refine (HR.out _).mono ?_); rintro e w2 ⟨gm, g, lb, rfl, hgm, hbw2, hF, hA⟩; have k1 := hF.look0; rw [hn4'] at k1; have k2 := fieldF (.func (.func g) #[] lb) ((n : Int) + 1); have I1 := Blk.call (Blk.drew I0) hbw2; have qI1 := I1.q; clear hF hA))
  have s1 := hbw1.size
  have s2 := hbw2.size
  simp at s1 s2
  have b1 : Below w.heap.size w w1 := ((Below.refl _ w).alloc (Nat.le_refl _) _).trans (hbw1.mono (by simp))
  have b12 : Below w1.heap.size w1 w2 := (Below.refl w1.heap.size w1).drew.trans hbw2
  have B2 := Lib.hid (b1.trans (b12.mono (by omega)))
  have hsz2 : w.heap.size ≤ w2.heap.size := by omega
  clear hbw1 hbw2 b1 b12 I0 qI lI I1 hgm k1 k2 s1 s2
  go_wp2_with fail
  go_loopw [5] (fun out wr => EncRel (n + 1) s cs w2.heap.size w2 out wr) (fun _ wr => s.size - wr.iterPos w2.heap.size)
  case atStart =>
    refine ⟨0, [], cs, rfl, HP.out, Nat.zero_le _, ?_, OwB.nil_ _ _ _, (Below.refl _ _).alloc (Nat.le_refl _) _⟩
    have := World.iter_heap w2 s 0
    simpa using this
  case round =>
    obtain ⟨pos, pre, rest, hcs, hpt, hle, hit, how, hbel⟩ := hrel
    have hsz : w2.heap.size < wr.heap.size := (Array.getElem?_eq_some_iff.1 hit).1
    have HCS := Lib.hid hcs
    have HPT := Lib.hid hpt
    clear hcs hpt
    by_cases hp : pos < s.size
    · have hnx : ∀ ty, (Instr.next (.pointer (some ⟨w2.heap.size, 0, none⟩)) true ty).run Tryz.prog wr = _ := fun ty => Lib.run_next_any_at wr w2.heap.size s pos ty hit hp
      obtain ⟨rest', hr', hrr, hok, hwid, hwd1⟩ := pts_head (by simpa using hp) HPT.out
      have hcp : ((Utf8.decode s pos).1 : Int) ≤ 1114111 := by have := okc_iff.1 hok; omega
      have hit2 := Lib.iterAt_heap wr w2.heap.size s pos (pos + (Utf8.decode s pos).2) hit
      have hbel2 := Lib.below_iterAt hbel (k := w2.heap.size) (Nat.le_refl _) s (pos + (Utf8.decode s pos).2)
      have how2 : OwB (wr.iterAt w2.heap.size s (pos + (Utf8.decode s pos).2)) (w2.heap.size + 1) 5 _ _ := owB_far how (Nat.le_refl _) (fun j hj => Lib.iterAt_other wr w2.heap.size j s _ (by omega))
      have HIT := Lib.hid hit2
      have HBL := Lib.hid hbel2
      have HRR := Lib.hid hrr
      have HR' := Lib.hid hr'
      have HWI := Lib.hid hwid
      have HWD := Lib.hid hwd1
      have HIT0 := Lib.hid hit
      have HOW := Lib.hid how2
      have hsA : (wr.iterAt w2.heap.size s (pos + (Utf8.decode s pos).2)).heap.size = wr.heap.size := Lib.iterAt_size _ _ _ _
      have HSA := Lib.hid hsA
      clear hok hbel hit2 hbel2 hrr hr' hwid hwd1 hle hit how how2 hsA
      generalize Utf8.decode s pos = dd at *
      obtain ⟨c, d⟩ := dd
      simp only at hcp hnx HIT HBL HRR HR' HWI HWD HOW HSA
      generalize wr.iterAt w2.heap.size s (pos + d) = wi at *
      go_wp2_with fail
      have hlen : Hid ((pre.flatMap (beW (n + 1))).length ≤ 8000000) := by
        have h1 := HCS.out
        have h2 := HR'.out
        have h3 := pts_len HP.out
        have h4 := HS.out
        have h5 : s.data.toList.length = s.size := rfl
        have h6 : pre.length ≤ cs.length := by rw [h1]; simp
        show (pre.flatMap (beW (n + 1))).length ≤ 8000000
        rw [flat_beW_len]
        have h7 : pre.length * (n + 1) ≤ pre.length * 4 := Nat.mul_le_mul_left _ (by omega)
        omega
      have HSW := Lib.hid hsz
      clear hnx hsz
      generalize hL : pre.flatMap (beW (n + 1)) = L at *
      have HL := Lib.hid hL
      clear hL
      go_loopw [5, 8] (fun out i wy => EncIn n c L w2.heap.size wi out i wy) (fun _ i _ => (intOf i + 1).toNat)
      case atStart => exact ⟨0, Nat.zero_le _, by simp, by simpa using HOW.out, Below.refl _ _⟩
      case round =>
        obtain ⟨j, hj, rfl, hoj, hbj⟩ := hrel
        have HOJ := Lib.hid hoj
        have HBJ := Lib.hid hbj
        clear hoj hbj
        by_cases hjn : j ≤ n
        · obtain ⟨i0, hi0⟩ : ∃ i0 : Nat, i0 + j = n := ⟨n - j, by omega⟩
          have hIe : (n : Int) - j = (i0 : Int) := by omega
          rw [hIe]
          have hbz : ((c : Int) / 2 ^ (8 * i0) % 256) = bi (UInt8.ofNat (c / 256 ^ i0 % 256)) := byte_at c i0
          have htk := beW_take (n + 1) c j (by omega)
          rw [show n + 1 - 1 - j = i0 by omega] at htk
          have HTK := Lib.hid htk
          have hl1 : ((beW (n + 1) c).take j).length ≤ 4 := by rw [List.length_take]; omega
          have HLT := Lib.hid (show (L ++ (beW (n + 1) c).take j).length ≤ 9000000 from by have := hlen.out; rw [List.length_append]; omega)
          have hbase : w2.heap.size + 1 ≤ wr.heap.size := by have h1 := HBJ.out.size; have h2 := HSA.out; have h3 := HSW.out; omega
          have HBA := Lib.hid (HBJ.out.alloc hbase (.cells #[.int .u8 (bi (UInt8.ofNat (c / 256 ^ i0 % 256)))] 5))
          clear htk hl1
          generalize UInt8.ofNat (c / 256 ^ i0 % 256) = z at *
          generalize hLJ : L ++ (beW (n + 1) c).take j = LJ at *
          have HLJ := Lib.hid hLJ
          clear hLJ
          go_wp2_with (at_builtin; refine wpList_appB _ rfl _ _ 32 rfl (w2.heap.size + 1) 5 ulB infoB _ _ rfl (HOJ.out.alloc _) _ [z] rfl (OwB.one _ _ z (Nat.le_refl _)).isB ?k1 ?k2 ?_)
          case k1 => have := HLT.out; simp; omega
          case k2 => simp; omega
          intro v3 w3 ho3 _ hb3
          have HO3 := Lib.hid ho3
          have HB3 := Lib.hid (HBA.out.trans hb3)
          clear ho3 hb3
          go_wp2
          go_roundw
          case rel =>
            exact ⟨j + 1, by omega, by (first | go_num | (congr 1; omega)), by rw [HTK.out, ← List.append_assoc, HLJ.out]; exact HO3.out, HB3.out⟩
          case measure => (simp [intOf]; try omega)
        · have hjn' : j = n + 1 := by omega
          subst hjn'
          have hIe : (n : Int) - ((n + 1 : Nat) : Int) = -1 := by omega
          rw [hIe]
          have hsB := HBJ.out.size
          have HOE : Hid (OwB wr (w2.heap.size + 1) 5 u5 (L ++ beW (n + 1) c)) := by
            have := HOJ.out
            rw [List.take_of_length_le (by rw [beW_len]; omega)] at this
            exact this
          go_wp2
          go_roundw
          case rel =>
            refine ⟨pos + d, pre ++ [c], rest', by rw [HCS.out, HR'.out]; simp, HRR.out, HWI.out, (HBJ.out.block _ (by omega)).trans HIT.out, by rw [List.flatMap_append, HL.out]; simpa using HOE.out, HBL.out.trans (HBJ.out.mono (by omega))⟩
          case measure =>
            have h1 := HWD.out
            have h2 := (HBJ.out.block w2.heap.size (by omega)).trans HIT.out
            simp only [World.iterPos, h2, HIT0.out]
            omega
    · have hnx : ∀ ty, (Instr.next (.pointer (some ⟨w2.heap.size, 0, none⟩)) true ty).run Tryz.prog wr = _ := fun ty => Lib.run_next_end_at wr w2.heap.size s pos ty hit hp
      have HB3 := Lib.hid hbel
      have HOW := Lib.hid how
      have hcs2 : cs = pre := by
        have h1 := HPT.out
        rw [List.drop_eq_nil_of_le (show s.data.toList.length ≤ pos from by have h2 : s.data.toList.length = s.size := rfl; omega), pts_nil] at h1
        injection h1 with h1
        rw [HCS.out, ← h1, List.append_nil]
      have HC2 := Lib.hid hcs2
      clear hbel how hcs2
      go_wp2
      go_ret2
      refine ⟨B2.out.trans (HB3.out.mono hsz2), .inr ⟨R, _, rfl, rfl, ?_⟩⟩
      rw [← HRR.out, HC2.out]
      exact HOW.out.isB

theorem encT_any (k : Int) (s : ByteArray) (w : World) (hK : (widthK k).isSome = true → KindOk k) (hG : Glo w) (hs : s.size ≤ 1000000) : Calls Tryz.prog 89 #[.agg #[.int .i64 k, .string s]] w (RetEn (encT k s.data.toList) w) := by
  cases hv : validT k s.data.toList with
  | false =>
    have : encT k s.data.toList = none := by unfold encT; rw [hv]; rfl
    rw [this]
    exact encT_no k s w hK hG hs hv
  | true =>
    obtain ⟨hw, cs, hp, _⟩ := validT_iff.1 hv
    cases hk : widthK k with
    | none => rw [hk] at hw; cases hw
    | some n =>
      cases n with
      | zero =>
        have : encT k s.data.toList = some s.data.toList := by unfold encT; rw [hv, hk]; rfl
        rw [this]
        exact encT_zero k s w hk (hK hw) hG hs hv
      | succ n =>
        have : encT k s.data.toList = some (cs.flatMap (beW (n + 1))) := by unfold encT; rw [hv, hk, hp]; rfl
        rw [this]
        exact encT_width k n s w hk (hK hw) hG hs cs hp hv
end Go.Proofs.YtjjkimjdmpeddaaGreatDoor
end
