/- The parts DecU, Str, StrF of one proof, one behind the other. -/
import Derived.Test.YtlmnmgokfnnbbaaGreatDoorQ25
import Derived.Test.YtlmnmgokfnnbbaaGreatDoorQ26
import Derived.Test.YtlmnmgokfnnbbaaGreatDoorQ27
import Derived.Test.YtlmnmgokfnnbbaaGreatDoorQ21
import Derived.Test.YtlmnmgokfnnbbaaGreatDoorQ11

/- Walk over charset.Decode where characters have octets of a number: the range over slices.Chunk. -/
section
set_option linter.unusedSimpArgs false
set_option linter.unusedVariables false
namespace Go.Proofs.YtlmnmgokfnnbbaaGreatDoor
open Go.RowKit Go.Shelf Go.Cr
attribute [local go_sem] Oper.semAt_some
theorem builder_keep {T e : TypeId} {B b : Nat} {bs : List Value} {w w' : World} (h : Lib.IsBuilderF T e B b bs w) (hk : ∀ (i : Nat) (c : Array Value) (t : TypeId) (fz : Nat × Nat), w.heap[i]? = some (.cells c t fz) → w'.heap[i]? = some (.cells c t fz)) : Lib.IsBuilderF T e B b bs w' := by
  have one : ∀ p, Lib.BuilderAtF T e B b p bs w → Lib.BuilderAtF T e B b p bs w' := by
    rintro p ⟨hB, v, hb, ⟨ho1, ho2⟩, hne⟩
    refine ⟨hB, v, hk _ _ _ _ hb, ⟨ho1, ?_⟩, hne⟩
    rcases ho2 with h | ⟨g, cap, cur, fz, h1, h2, h3, h4⟩
    · exact .inl h
    · exact .inr ⟨g, cap, cur, fz, h1, h2, hk _ _ _ _ h3, h4⟩
  exact h.elim (fun x => .inl (one _ x)) (fun x => .inr (one _ x))
theorem keepC_grown {w w' : World} {row : Option Nat} (hg : w.grownBy w' row) (hr : ∀ r, row = some r → ∃ o : Obj, w.heap[r]? = some o ∧ o.isCells = false) (i : Nat) (c : Array Value) (t : TypeId) (fz : Nat × Nat) (h : w.heap[i]? = some (.cells c t fz)) : w'.heap[i]? = some (.cells c t fz) := by
  refine (hg.block i (Array.getElem?_eq_some_iff.1 h).1 (fun e => ?_)).trans h
  obtain ⟨o, ho, hc⟩ := hr i e.symm
  rw [h] at ho
  cases ho
  cases hc
theorem keepC_below {w w' : World} (hb : Below w.heap.size w w') (i : Nat) (c : Array Value) (t : TypeId) (fz : Nat × Nat) (h : w.heap[i]? = some (.cells c t fz)) : w'.heap[i]? = some (.cells c t fz) :=
  (hb.block i (Array.getElem?_eq_some_iff.1 h).1).trans h

def unitsU {w0 : World} {d : Nat} (xs : List (UnitT w0 d)) : List Nat := xs.map fun x => unitN x.bytes
theorem unitsU_snoc {w0 : World} {d : Nat} (xs : List (UnitT w0 d)) (x : UnitT w0 d) : unitsU (xs ++ [x]) = unitsU xs ++ [unitN x.bytes] := by simp [unitsU]
theorem units_flatU {w0 : World} {d : Nat} (hd : 0 < d) : ∀ (xs : List (UnitT w0 d)) (t : List UInt8), units d (flatU xs ++ t) = unitsU xs ++ units d t := by
  intro xs
  induction xs with
  | nil => intro t; rfl
  | cons x r ih =>
    intro t
    have hl : x.bytes.length = d := x.2.2
    have hne : flatU (x :: r) ++ t ≠ [] := fun e => by
      have := congrArg List.length e
      simp only [flatU, List.flatMap_cons, List.length_append, hl, List.length_nil] at this
      omega
    have e1 : flatU (x :: r) ++ t = x.bytes ++ (flatU r ++ t) := by simp [flatU]
    rw [units_step hd _ hne, e1, List.take_append_of_le_length (by omega), List.take_of_length_le (by omega), List.drop_append_of_le_length (by omega), List.drop_eq_nil_of_le (by omega), List.nil_append, ih]
    rfl

theorem unitN_take (l : List UInt8) (j : Nat) (h : j < l.length) : unitN (l.take (j + 1)) = unitN (l.take j) * 256 + (l.getD j 0).toNat := by
  rw [List.take_succ_eq_append_getElem h, unitN_snoc]
  simp [h]
theorem or_low (X o : Int) (h0 : 0 ≤ X) (h1 : X ≤ 16777215) (h2 : 0 ≤ o) (h3 : o < 256) : bits .or .u32 (X * 256) o = X * 256 + o :=
  bits_join .u32 32 (by decide) wraps_u32 8 (X * 256) o (by omega) (by omega) (by omega) h2 h3 (by omega)
def UxRel (bx : List UInt8) (xx ix : Value) : Prop := ∃ j : Nat, j ≤ bx.length ∧ ix = .int .i64 (j : Int) ∧ xx = .int .u32 ((unitN (bx.take j) : Nat) : Int)

theorem flat_enc_le {w0 : World} {d : Nat} (xs : List (UnitT w0 d)) : (∀ y ∈ xs, okc ((unitN y.bytes : Nat) : Int) = true) → ((unitsU xs).flatMap enc1).length ≤ 4 * xs.length := by
  induction xs with
  | nil => intro _; simp [unitsU]
  | cons x t ih =>
    intro h
    have h1 := (enc1_len (h x (by simp))).2
    have h2 := ih (fun y hy => h y (by simp [hy]))
    have e : unitsU (x :: t) = unitN x.bytes :: unitsU t := rfl
    rw [e, List.flatMap_cons, List.length_append, List.length_cons]
    omega

def DecI (k : Int) {w0 : World} {d : Nat} (w4 : World) (bb Bs Bn : Nat) (pre : List (UnitT w0 d)) (W : World) : Prop :=
  Below bb w4 W ∧ W.heap[Bs]? = w4.heap[Bs]? ∧ W.heap[Bn]? = w4.heap[Bn]? ∧ Lib.IsBuilderF 104 5 bb bb (Lib.byteCells ((unitsU pre).flatMap enc1)) W ∧ ∀ x ∈ pre, hasK k ((unitN x.bytes : Nat) : Int) = true
def DecX (k : Int) {w0 : World} {d : Nat} (b0 b1 : Nat) (w : World) (c : Code) (pre : List (UnitT w0 d)) (W : World) : Prop :=
  c = .ret ∧ Blk W b0 97 #[.int .i64 0, .string ⟨#[]⟩] ∧ Blk W b1 34 #[.int .i64 6] ∧ Below w.heap.size w W ∧ ∃ x ∈ pre, hasK k ((unitN x.bytes : Nat) : Int) = false
theorem decI_own (k : Int) {w0 : World} {d : Nat} (w4 : World) (bb Bs Bn : Nat) (hbb : bb ≤ w4.heap.size) (hBs : Bs < w4.heap.size) (hBn : Bn < w4.heap.size) : OwnFrom w4.heap.size (DecI (w0 := w0) (d := d) k w4 bb Bs Bn) := by
  rintro s W W' row ⟨h1, h2, h3, h4, h5⟩ hg hr
  have hsz := h1.size
  refine ⟨h1.grown hg (by omega) (fun r e => by have := (hr r e).1; omega), (hg.block Bs (by omega) (fun e => by have := (hr Bs e.symm).1; omega)).trans h2, (hg.block Bn (by omega) (fun e => by have := (hr Bn e.symm).1; omega)).trans h3, builder_keep h4 (keepC_grown hg (fun r e => (hr r e).2)), h5⟩
theorem decX_own (k : Int) {w0 : World} {d : Nat} (b0 b1 : Nat) (w w4 : World) (hw : w.heap.size ≤ w4.heap.size) (c : Code) : OwnFrom w4.heap.size (DecX (w0 := w0) (d := d) k b0 b1 w c) := by
  rintro s W W' row ⟨h1, h2, h3, h4, h5⟩ hg hr
  exact ⟨h1, keepC_grown hg (fun r e => (hr r e).2) _ _ _ _ h2, keepC_grown hg (fun r e => (hr r e).2) _ _ _ _ h3, h4.grown hg (by have := h4.size; omega) (fun r e => by have := (hr r e).1; omega), h5⟩

set_option maxRecDepth 100000 in
set_option maxHeartbeats 4000000 in
theorem decT_loop (k : Int) (n : Nat) (v : Value) (c : List UInt8) (w : World) (hk : widthK k = some (n + 1)) (hK : KindOk k) (hG : Glo w) (hv : IsB w v c) (hc : c.length ≤ 1000000) (hm : c.length % (n + 1) = 0) : Calls Tryz.prog 110 #[.int .i64 k, v] w (RetDe k (decT k c) w) := by
  have HR : Hid (∀ W, Calls Tryz.prog 144 #[] W (RetFy k (n + 1) W)) := formsYes k (n + 1) hk hK
  have HK : Hid ((widthK k).isSome = true) := by rw [hk]; rfl
  have hlen := hv.len (P := Tryz.prog) ulB
  have hn4 : n < 4 := by have := widthK_small hk; omega
  have hcI : (c.length : Int) ≤ 1000000 := by omega
  have hmod : (((c.length : Int) % ((n : Int) + 1)) == 0) = true := beq_iff_eq.2 (by have h := congrArg (fun x : Nat => (x : Int)) hm; simpa using h)
  have hmod2 : (((c.length : Int) % ((n : Int) + 1)) != 0) = false := by simp [bne, hmod]
  have hcast : ((n + 1 : Nat) : Int) = (n : Int) + 1 := by omega
  have HCH : Hid (∀ A ln cp W, Calls Tryz.prog 145 #[.slice A ln cp, .int .i64 ((n : Int) + 1)] W (RetCh (n + 1) (.slice A ln cp) W)) := fun A ln cp W => by have := chunk_any (n + 1) (by omega) A ln cp W; rw [hcast] at this; exact this
  have HG := Lib.hid hG
  have HV0 := Lib.hid hv
  have HKO := Lib.hid hK
  have HW := Lib.hid hk
  have HM := Lib.hid hm
  obtain ⟨A, cp, rfl⟩ := isB_slice hv
  have HCA := Lib.hid hcast
  clear hk hv hG hK hm hcast
  refine (callsIn_wide (n := 6)).1 ?_
  refine callsIn_of_wp_marks Tryz.func110 rfl trivial ?_ rfl
  simp only [Tryz.ntmps110, List.size_toArray, List.length_cons, List.length_nil, Nat.reduceAdd, Nat.reduceSub, Array.replicate_succ, Array.replicate_zero, List.push_toArray, List.append_toArray, List.nil_append, List.cons_append]
  gi_wp2_with (first | ((refine ⟨trivial, ?_⟩); (gi_at_call 144); (with_reducible refine (callsIn_wide.2 (HR.out _)).mono ?_); rintro e w1 ⟨gm, g, lb, rfl, hgm, hbw1, hF, hA⟩; have sz := hbw1.size; simp at sz; have y0 : w.heap.size < w1.heap.size := (by omega); have y1 : w.heap.size + 1 < w1.heap.size := (by omega); have HSZ := Lib.hid sz; clear sz; have HA := Lib.hid hA; clear hA; have k1 := hF.look; rw [HK.out, HCA.out] at k1; have I0 := Blk.call ((Blk.new w 97 #[.int .i64 0, .string ⟨#[]⟩]).alloc _) hbw1; have I1 := Blk.call (Blk.new (w.alloc (.cells #[.int .i64 0, .string ⟨#[]⟩] 97)) 34 #[.int .i64 0]) hbw1; have q0 := I0.q; have f0 := I0.fz; have q1 := I1.q; have f1 := I1.fz; simp at q1 f1; have HI0 := Lib.hid I0; have HI1 := Lib.hid I1; clear I0 I1; have k3 := isB_bstr ((((HV0.out.alloc _).alloc _).below hbw1).alloc (.cells #[.func (.func g) #[] lb, .int .i64 ((n : Int) + 1)] 169))) | ((refine ⟨trivial, ?_⟩); (gi_at_call 145); (with_reducible refine (callsIn_wide.2 (HCH.out _ _ _ _)).mono ?_); rintro e w2 ⟨rfl, rfl⟩))
  --WAYS
  · have b1 : Below w.heap.size w w1 := (((Below.refl _ w).alloc (Nat.le_refl _) _).alloc (by simp) _).trans (hbw1.mono (by simp; omega))
    have HB1 := Lib.hid b1
    have b4 := ((((b1.alloc (by omega) (.cells #[.func (.func g) #[] lb, .int .i64 ((n : Int) + 1)] 169)).alloc (by simp; omega) (.cells #[.int .i64 k, .string (bStr c)] 97)).alloc (by simp; omega) (.cells #[.pointer none, .slice none 0 0] 104)).alloc (by simp; omega) (.cells #[.slice A c.length cp] 33)).alloc (by simp; omega) (.cells #[.int .i64 ((n : Int) + 1)] 3)
    have kb0 := ((((HI0.out.alloc (.cells #[.func (.func g) #[] lb, .int .i64 ((n : Int) + 1)] 169)).alloc (.cells #[.int .i64 k, .string (bStr c)] 97)).alloc (.cells #[.pointer none, .slice none 0 0] 104)).alloc (.cells #[.slice A c.length cp] 33)).alloc (.cells #[.int .i64 ((n : Int) + 1)] 3)
    have kb1 := ((((HI1.out.alloc (.cells #[.func (.func g) #[] lb, .int .i64 ((n : Int) + 1)] 169)).alloc (.cells #[.int .i64 k, .string (bStr c)] 97)).alloc (.cells #[.pointer none, .slice none 0 0] 104)).alloc (.cells #[.slice A c.length cp] 33)).alloc (.cells #[.int .i64 ((n : Int) + 1)] 3)
    have kf := ((((Blk.new w1 169 #[.func (.func g) #[] lb, .int .i64 ((n : Int) + 1)]).alloc (.cells #[.int .i64 k, .string (bStr c)] 97)).alloc (.cells #[.pointer none, .slice none 0 0] 104)).alloc (.cells #[.slice A c.length cp] 33)).alloc (.cells #[.int .i64 ((n : Int) + 1)] 3)
    have kt := (((Blk.new (w1.alloc (.cells #[.func (.func g) #[] lb, .int .i64 ((n : Int) + 1)] 169)) 97 #[.int .i64 k, .string (bStr c)]).alloc (.cells #[.pointer none, .slice none 0 0] 104)).alloc (.cells #[.slice A c.length cp] 33)).alloc (.cells #[.int .i64 ((n : Int) + 1)] 3)
    have kbu := ((Lib.IsBuilderF.of (Lib.fresh_isBuilder 104 5 ((w1.alloc (.cells #[.func (.func g) #[] lb, .int .i64 ((n : Int) + 1)] 169)).alloc (.cells #[.int .i64 k, .string (bStr c)] 97)))).alloc (.cells #[.slice A c.length cp] 33)).alloc (.cells #[.int .i64 ((n : Int) + 1)] 3)
    have kbs := (Blk.new (((w1.alloc (.cells #[.func (.func g) #[] lb, .int .i64 ((n : Int) + 1)] 169)).alloc (.cells #[.int .i64 k, .string (bStr c)] 97)).alloc (.cells #[.pointer none, .slice none 0 0] 104)) 33 #[.slice A c.length cp]).alloc (.cells #[.int .i64 ((n : Int) + 1)] 3)
    have kbn := Blk.new ((((w1.alloc (.cells #[.func (.func g) #[] lb, .int .i64 ((n : Int) + 1)] 169)).alloc (.cells #[.int .i64 k, .string (bStr c)] 97)).alloc (.cells #[.pointer none, .slice none 0 0] 104)).alloc (.cells #[.slice A c.length cp] 33)) 3 #[.int .i64 ((n : Int) + 1)]
    have hb14 : Below w1.heap.size w1 (((((w1.alloc (.cells #[.func (.func g) #[] lb, .int .i64 ((n : Int) + 1)] 169)).alloc (.cells #[.int .i64 k, .string (bStr c)] 97)).alloc (.cells #[.pointer none, .slice none 0 0] 104)).alloc (.cells #[.slice A c.length cp] 33)).alloc (.cells #[.int .i64 ((n : Int) + 1)] 3)) := (((((Below.refl _ _).alloc (Nat.le_refl _) _).alloc (by simp) _).alloc (by simp; omega) _).alloc (by simp; omega) _).alloc (by simp; omega) _
    have hz4 : (((((w1.alloc (.cells #[.func (.func g) #[] lb, .int .i64 ((n : Int) + 1)] 169)).alloc (.cells #[.int .i64 k, .string (bStr c)] 97)).alloc (.cells #[.pointer none, .slice none 0 0] 104)).alloc (.cells #[.slice A c.length cp] 33)).alloc (.cells #[.int .i64 ((n : Int) + 1)] 3)).heap.size = w1.heap.size + 5 := by simp
    simp only [World.size_alloc] at kb1 kt kbu kbs kbn
    generalize ((((w1.alloc (.cells #[.func (.func g) #[] lb, .int .i64 ((n : Int) + 1)] 169)).alloc (.cells #[.int .i64 k, .string (bStr c)] 97)).alloc (.cells #[.pointer none, .slice none 0 0] 104)).alloc (.cells #[.slice A c.length cp] 33)).alloc (.cells #[.int .i64 ((n : Int) + 1)] 3) = w4 at *
    have HZ4 := Lib.hid hz4
    have HB4 := Lib.hid b4
    have HB14 := Lib.hid hb14
    have KB0 := Lib.hid kb0
    have KB1 := Lib.hid kb1
    have KF := Lib.hid kf
    have KT := Lib.hid kt
    have KBU := Lib.hid kbu
    have KBS := Lib.hid kbs
    have KBN := Lib.hid (show Blk w4 (w1.heap.size + 1 + 1 + 1 + 1) 3 #[.int .i64 ((n + 1 : Nat) : Int)] from by rw [HCA.out]; exact kbn)
    clear hz4 b1 b4 hb14 kb0 kb1 kf kt kbu kbs kbn q0 f0 q1 f1 k1 k3 hbw1 hF hgm
    refine wpIn_rangeFunc_ownF rfl (by omega) (gf := 190) (lb := #[.pointer (some ⟨w1.heap.size + 1 + 1 + 1, 0, none⟩), .pointer (some ⟨w1.heap.size + 1 + 1 + 1 + 1, 0, none⟩)]) rfl trivial (enters_of Tryz.func190 (by kernel_rfl) rfl)
      (chunk_stops 5 (by omega) w (n + 1) (by omega) (by omega) (.slice A c.length cp) c hc HM.out HV0.out (w1.heap.size + 1 + 1 + 1) (w1.heap.size + 1 + 1 + 1 + 1) (w1.heap.size + 1 + 1) w4 KBS.out KBN.out) (fun h k => h.trans k) ?hKbA (Below.refl _ _) (fun _ => rfl)
      (DecI k w4 (w1.heap.size + 1 + 1) (w1.heap.size + 1 + 1 + 1) (w1.heap.size + 1 + 1 + 1 + 1)) (DecX k w.heap.size (w.heap.size + 1) w)
      (decI_own k w4 _ _ _ (by have := HZ4.out; omega) (by have := HZ4.out; omega) (by have := HZ4.out; omega)) (fun c => decX_own k _ _ w w4 HB4.out.size c) ?h0A ?a1A ?assignA ?bodyA ?doneA ?stopA
    case hKbA =>
      intro W l o o' hl ho hc1 hc2
      have hz4 := HZ4.out
      exact ⟨belowK_b (w := w4) (by omega) W l o o' hl ho hc1 hc2, World.putObj_heap_other (fun e => by omega), World.putObj_heap_other (fun e => by omega)⟩
    case h0A => exact ⟨Below.refl _ _, rfl, rfl, KBU.out, by simp⟩
    case assignA =>
      intro l x W K hK
      gi_wp2
      exact hK
    case bodyA =>
      intro l pre x W hI hlenp
      obtain ⟨hbel, hbs, hbn, hbu, hall⟩ := hI
      have hz4 := HZ4.out
      have kf := KF.out.below hbel (by omega)
      have kb0 := KB0.out.below hbel (by omega)
      have kb1 := KB1.out.below hbel (by omega)
      have HBEL := Lib.hid hbel
      have HBU := Lib.hid hbu
      have HBSN := Lib.hid (And.intro hbs hbn)
      have HALL := Lib.hid hall
      have hBW : Below w.heap.size w W := HB4.out.trans (hbel.mono (by omega))
      have hszW : w4.heap.size ≤ W.heap.size := hbel.size
      have hxv : IsB w x.1.1 x.bytes := x.2.1
      have hxl : x.bytes.length = n + 1 := x.2.2
      have HXV := Lib.hid hxv
      have HXL := Lib.hid hxl
      have hxW := hxv.below hBW
      obtain ⟨Ax, cx, hve⟩ := isB_slice hxW
      rw [hve] at hxW
      have HXW := Lib.hid hxW
      have hlx := HXW.out.len (P := Tryz.prog) ulB
      have qf := kf.q
      have HK0 := Lib.hid kb0
      have HK1 := Lib.hid kb1
      have HKF := Lib.hid kf
      have HBW := Lib.hid hBW
      have HZW := Lib.hid hszW
      have HLN : Hid (((unitsU pre).flatMap enc1).length + 4 ≤ 140737488355328) := by
        have h1 : ((unitsU pre).flatMap enc1).length ≤ 4 * pre.length := flat_enc_le pre (fun y hy => hasK_okc (hall y hy))
        show _ + 4 ≤ _
        omega
      clear hbel hbu hbs hbn hall hBW hxv hxl hxW kb0 kb1 hszW hz4
      gi_wp2
      gi_loop [11, 51] (fun xx ix => UxRel x.bytes xx ix) (fun _ ix => x.bytes.length + 1 - (intOf ix).toNat)
      case atStart => exact ⟨0, Nat.zero_le _, rfl, rfl⟩
      case round =>
        obtain ⟨j, hj, rfl, rfl⟩ := hrel
        by_cases hlt : j < x.bytes.length
        · have hj3 : j ≤ 3 := by have := HXL.out; omega
          obtain ⟨bq, oq, hi1, hl1, hc1⟩ := HXW.out.at_ (P := Tryz.prog) ulB szB .i64 (i := (j : Int)) (by omega) (by omega)
          simp only [Int.toNat_natCast] at hc1
          have htk := unitN_take x.bytes j hlt
          have hX := unitN_lt (x.bytes.take j)
          rw [List.length_take, Nat.min_eq_left (by omega)] at hX
          have hX2 : unitN (x.bytes.take j) ≤ 16777215 := by
            have : 256 ^ j ≤ 256 ^ 3 := Nat.pow_le_pow_right (by decide) hj3
            omega
          have ho1 := bat_lt x.bytes j
          have ho0 := bat_pos x.bytes j
          have hbt : ((x.bytes.getD j 0).toNat : Int) = bat x.bytes j := rfl
          have HTK := Lib.hid (show ((unitN (x.bytes.take (j + 1)) : Nat) : Int) = ((unitN (x.bytes.take j) : Nat) : Int) * 256 + bat x.bytes j from by rw [htk, ← hbt]; omega)
          clear htk hX hbt
          have hX3 : ((unitN (x.bytes.take j) : Nat) : Int) ≤ 16777215 := by omega
          have hX0 : (0 : Int) ≤ ((unitN (x.bytes.take j) : Nat) : Int) := by omega
          generalize ((unitN (x.bytes.take j) : Nat) : Int) = X at *
          generalize bat x.bytes j = o at *
          have hor := or_low X o hX0 hX3 ho0 ho1
          have hltI : (j : Int) < x.bytes.length := by omega
          clear hX2
          gi_wp2
          exact ⟨⟨j + 1, by omega, by (first | go_num | (congr 1; omega)), by rw [HTK.out]⟩, by (simp [intOf]; try omega)⟩
        · have hje : j = x.bytes.length := by omega
          subst hje
          rw [List.take_length]
          have HX := Lib.hid (rfl : unitN x.bytes = unitN x.bytes)
          obtain ⟨g', lb', e, eg, hcl⟩ := HA.out
          injection e with e1 e2 e3
          injection e1 with e1
          subst e1 e3
          have HCL := Lib.hid (fun (X : Int) (h0 : 0 ≤ X) (h1 : X ≤ 1114111) => hcl W X (fun b _ hlt => (HBEL.out.block b (by omega)).trans (HB14.out.block b hlt)) h0 h1)
          have hlI : (x.bytes.length : Int) ≤ x.bytes.length := by omega
          clear hcl e2
          obtain ⟨X, hX⟩ : ∃ X : Int, X = ((unitN x.bytes : Nat) : Int) := ⟨_, rfl⟩
          have hX0 : 0 ≤ X := by omega
          have HXE := Lib.hid hX
          rw [← hX]
          have hXu : X < 4294967296 := by
            have h1 := unitN_lt x.bytes
            have h2 := HXL.out
            have h3 : 256 ^ x.bytes.length ≤ 256 ^ 4 := Nat.pow_le_pow_right (by decide) (by omega)
            omega
          clear hX
          by_cases hXm : X ≤ 1114111
          · have hcall := HCL.out X hX0 hXm
            cases hq : hasK k X with
            | true =>
              rw [hq] at hcall
              have HQ := Lib.hid hq
              clear hq
              have hbu2 := HBU.out
              gi_wp2_with (first | ((refine ⟨trivial, ?_⟩); (with_reducible refine (CallsIn.inRound l (callsIn_wide.2 hcall)).mono ?_); rintro e W2 ⟨rfl, hb2⟩; have hbuW := builder_keep HBU.out (keepC_below hb2); have HBUW := Lib.hid hbuW; have hb2s := hb2.size; clear hbuW) | ((refine ⟨trivial, ?_⟩); (gi_at_call 146); (refine (CallsIn.inRound l (callsIn_wide.2 (Tryz.Builder_WriteRune_k (w1.heap.size + 1 + 1) (w1.heap.size + 1 + 1) _ X (by omega) (by omega) W2 HBUW.out (by rw [Lib.byteCells_length]; exact HLN.out) (by have := HZ4.out; have := HZW.out; omega)))).mono ?_); rintro e W3 ⟨rfl, hbd, hb3, hok⟩))
              have hz4 := HZ4.out
              have hzW := HZW.out
              have hst : ∀ (i : Nat) (t : TypeId) (cs : Array Value), Blk W2 i t cs → t ≠ 5 → i ≠ w1.heap.size + 1 + 1 → W3.heap[i]? = some (.cells cs t (0, 0)) := fun i t cs h ht hi => hok i _ h (by simp; exact hi) (fun c' fz e => by injection e with e1 e2 e3; exact ht e2)
              have hbsW : Blk W2 (w1.heap.size + 1 + 1 + 1) _ _ := (hb2.block _ (by omega)).trans (HBSN.out.1.trans KBS.out)
              have hbnW : Blk W2 (w1.heap.size + 1 + 1 + 1 + 1) _ _ := (hb2.block _ (by omega)).trans (HBSN.out.2.trans KBN.out)
              have e3s := hst _ _ _ hbsW (by decide) (by omega)
              have e3n := hst _ _ _ hbnW (by decide) (by omega)
              have hb23 : Below (w1.heap.size + 1 + 1) W W3 := (hb2.mono (by omega)).trans hb3
              refine ⟨⟨Nat.le_trans hb2.size hb3.size, fun kk o hk ho => hok kk o ((hb2.block kk (Array.getElem?_eq_some_iff.1 hk).1).trans hk) (fun e => ?_) (fun c' fz e => by subst e; cases ho)⟩, ⟨hb23, e3s.trans (HBSN.out.1.trans KBS.out).symm, e3n.trans (HBSN.out.2.trans KBN.out).symm⟩, HBEL.out.trans hb23, e3s.trans KBS.out.symm, e3n.trans KBN.out.symm, ?_, fun y hy => ?_⟩
              · injection e with e
                subst e
                rcases HBU.out with ⟨_, v, hb, _⟩ | ⟨_, v, hb, _⟩ <;> (rw [hb] at hk; cases hk; cases ho)
              · refine Or.inr ?_
                rw [unitsU_snoc, List.flatMap_append, Lib.byteCells_append]
                have : ([unitN x.bytes].flatMap enc1) = Lib.encodeRune X := by rw [HXE.out]; simp [enc1]
                rw [this, Lib.byteCells_encodeRune]
                exact hbd
              · rcases List.mem_append.1 hy with hy | hy
                · exact HALL.out y hy
                · rw [List.mem_singleton] at hy; subst hy; rw [← HXE.out]; exact HQ.out
            | false =>
              rw [hq] at hcall
              have HQ := Lib.hid hq
              clear hq
              gi_wp2_with (first | ((refine ⟨trivial, ?_⟩); (with_reducible refine (CallsIn.inRound l (callsIn_wide.2 hcall)).mono ?_); rintro e W2 ⟨rfl, hb2⟩; have c0 := HK0.out.call hb2; have c1 := HK1.out.call hb2; have p0 := c0.q; have z0 := c0.fz; have p1 := c1.q; have z1 := c1.fz; simp at p1 z1))
              have hz4 := HZ4.out
              have hzW := HZW.out
              have s2 := hb2.size
              have kp : KeepsOthers W W2 := ⟨hb2.size, fun kk o hk _ => (hb2.block kk (Array.getElem?_eq_some_iff.1 hk).1).trans hk⟩
              have bw2 : Below w.heap.size w W2 := HBW.out.trans (hb2.mono (by omega))
              refine ⟨((kp.trans (KeepsOthers.setCell _ _ _)).trans (KeepsOthers.setCell _ _ _)).trans (KeepsOthers.setCell _ _ _), rfl, ?_, ?_, ((bw2.setCell (p := ⟨w.heap.size, 0, none⟩) (Nat.le_refl _) _).setCell (p := ⟨w.heap.size, 1, none⟩) (Nat.le_refl _) _).setCell (p := ⟨w.heap.size + 1, 0, none⟩) (by simp) _, x, by simp, by rw [← HXE.out]; exact HQ.out⟩
              · exact ((c0.set_ 0 _).set_ 1 _).far (p := ⟨w.heap.size + 1, 0, none⟩) (by simp) _
              · exact ((c1.far (p := ⟨w.heap.size, 0, none⟩) (by simp) _).far (p := ⟨w.heap.size, 1, none⟩) (by simp) _).set_ 0 _
          · have hXm' : (1114111 : Int) < X := by omega
            have c0 := HK0.out
            have c1 := HK1.out
            have p0 := c0.q
            have z0 := c0.fz
            have p1 := c1.q
            have z1 := c1.fz
            simp at p1 z1
            gi_wp2
            refine ⟨fun _ h => (by cases h), ?_⟩
            gi_wp2
            refine ⟨((KeepsOthers.setCell _ _ _).trans (KeepsOthers.setCell _ _ _)).trans (KeepsOthers.setCell _ _ _), rfl, ?_, ?_, ((HBW.out.setCell (p := ⟨w.heap.size, 0, none⟩) (Nat.le_refl _) _).setCell (p := ⟨w.heap.size, 1, none⟩) (Nat.le_refl _) _).setCell (p := ⟨w.heap.size + 1, 0, none⟩) (by simp) _, x, by simp, ?_⟩
            · exact ((c0.set_ 0 _).set_ 1 _).far (p := ⟨w.heap.size + 1, 0, none⟩) (by simp) _
            · exact ((c1.far (p := ⟨w.heap.size, 0, none⟩) (by simp) _).far (p := ⟨w.heap.size, 1, none⟩) (by simp) _).set_ 0 _
            · rw [← HXE.out]
              cases hq : hasK k X with
              | false => rfl
              | true => have := okc_iff.1 (hasK_okc hq); omega
    case doneA =>
      rintro D xs W hD hfl ⟨hbel, hbs, hbn, hbu, hall⟩ hK
      have hz4 := HZ4.out
      have hzW := hbel.size
      have HBEL := Lib.hid hbel
      have HBU := Lib.hid hbu
      have HALL := Lib.hid hall
      have HFL := Lib.hid hfl
      have HDD := Lib.hid hK
      have HBW := Lib.hid (HB4.out.trans (hbel.mono (by omega)))
      have kb0 := KB0.out.below hbel (by omega)
      have kb1 := KB1.out.below hbel (by omega)
      have kt := KT.out.below hbel (by omega)
      have HK0 := Lib.hid kb0
      have HK1 := Lib.hid kb1
      have HKT := Lib.hid kt
      clear hbel hbu hbs hbn hall hfl hK kb0 kb1 kt
      obtain ⟨S, hS⟩ : ∃ S, S = (unitsU xs).flatMap enc1 := ⟨_, rfl⟩
      have hun : units (n + 1) c = unitsU xs := by
        have := units_flatU (by omega : 0 < n + 1) xs []
        rw [List.append_nil, HFL.out, units_nil, List.append_nil] at this
        exact this
      have hok : ∀ y ∈ unitsU xs, hasK k (y : Int) = true := fun y hy => by
        obtain ⟨x, hx, rfl⟩ := List.mem_map.1 hy
        exact HALL.out x hx
      have hVT : validT k S = true := by
        rw [hS]
        exact validT_iff.2 ⟨by rw [HW.out]; rfl, _, pts_of _ (fun y hy => hasK_okc (hok y hy)), hok⟩
      have hDE : decT k c = some S := by
        unfold decT
        rw [HW.out]
        simp only
        rw [if_pos ⟨HM.out, by rw [hun, List.all_eq_true]; exact hok⟩, hun, hS]
      have hSl : S.length ≤ 4000000 := by
        have h1 := flat_enc_le xs (fun y hy => hasK_okc (HALL.out y hy))
        have h2 : (unitsU xs).length = xs.length := by simp [unitsU]
        have h3 : xs.length ≤ c.length := by
          have h4 := congrArg List.length HFL.out
          have h5 : ∀ ys : List (UnitT w (n + 1)), ys.length ≤ (flatU ys).length := by
            intro ys
            induction ys with
            | nil => simp
            | cons y t ih =>
              have hl : y.bytes.length = n + 1 := y.2.2
              have e : flatU (y :: t) = y.bytes ++ flatU t := rfl
              rw [e, List.length_append, List.length_cons, hl]
              omega
          have := h5 xs
          omega
        rw [hS]
        omega
      have HVA : Hid (∀ W, Glo W → Calls Tryz.prog 139 #[.agg #[.int .i64 k, .string ⟨S.toArray⟩]] W (RetB (.bool true) W)) := fun W h => by
        have := valid_any k ⟨S.toArray⟩ W (fun _ => HKO.out) h (by show S.toArray.size ≤ _; simp; omega)
        have e : (⟨S.toArray⟩ : ByteArray).data.toList = S := by simp
        rw [e, hVT] at this
        exact this
      have HBU2 := HBU.out
      rw [← hS] at HBU2
      have HB2 := Lib.hid HBU2
      have HDE := Lib.hid hDE
      have HGW := Lib.hid (HG.out.below HBW.out)
      clear HBU2 hS hun hok hVT hDE hSl HBU
      have hbbW : w1.heap.size + 1 + 1 ≤ W.heap.size := by omega
      gi_wp2_with (first | ((refine ⟨trivial, ?_⟩); (gi_at_call 78); (refine (callsIn_wide.2 (Tryz.Builder_String_any_k (w1.heap.size + 1 + 1) (w1.heap.size + 1 + 1) S W HB2.out hbbW)).mono ?_); rintro e W2 ⟨rfl, _, hb2, hok2⟩; have c0 := HK0.out.below hb2 (by omega); have c1 := HK1.out.below hb2 (by omega); have ct := HKT.out.below hb2 (by omega); have q0 := c0.q; have z0 := c0.fz; have q1 := c1.q; have z1 := c1.fz; have qt := ct.q; have zt := ct.fz) | ((refine ⟨trivial, ?_⟩); (gi_at_call 139); (with_reducible refine (callsIn_wide.2 (HVA.out _ (HG.out.below ((HBW.out.trans (hb2.mono (by omega))).setCell (p := ⟨w1.heap.size + 1, 1, none⟩) (by simp; omega) _)))).mono ?_); rintro e W3 ⟨rfl, hb3⟩; have d0 := (c0.far (p := ⟨w1.heap.size + 1, 1, none⟩) (by simp; omega) (.string ⟨S.toArray⟩)).call hb3; have d1 := (c1.far (p := ⟨w1.heap.size + 1, 1, none⟩) (by simp; omega) (.string ⟨S.toArray⟩)).call hb3; have dt := (ct.set_ 1 (.string ⟨S.toArray⟩)).call hb3; have r0 := d0.q; have s0 := d0.fz; have r1 := d1.q; have s1 := d1.fz; have rt := dt.q; simp at rt))
      have hK2 : W2.heap[D]? = some (.deferred (some [])) := hok2 D _ HDD.out (fun e => by
        injection e with e
        subst e
        have := HDD.out
        rcases HB2.out with ⟨_, v, hb, _⟩ | ⟨_, v, hb, _⟩ <;> (rw [hb] at this; cases this)) (fun c' fz e => by cases e)
      have hK2' := (KeepsOthers.setCell W2 ⟨w1.heap.size + 1, 1, none⟩ (.string ⟨S.toArray⟩)).same D _ hK2 rfl
      have hK3 := (hb3.block D (Array.getElem?_eq_some_iff.1 hK2').1).trans hK2'
      have hK4 := (((KeepsOthers.setCell W3 ⟨w.heap.size, 0, none⟩ (.int .i64 k)).trans (KeepsOthers.setCell _ ⟨w.heap.size, 1, none⟩ (.string ⟨S.toArray⟩))).trans (KeepsOthers.setCell _ ⟨w.heap.size + 1, 0, none⟩ (.int .i64 0))).same D _ hK3 rfl
      have bW3 : Below w.heap.size w W3 := (((HBW.out.trans (hb2.mono (by omega))).setCell (p := ⟨w1.heap.size + 1, 1, none⟩) (by simp; omega) (.string ⟨S.toArray⟩))).trans (hb3.mono (by have := HBW.out.size; have := hb2.size; simp; omega))
      have f0 := ((d0.set_ 0 (.int .i64 k)).set_ 1 (.string ⟨S.toArray⟩)).far (p := ⟨w.heap.size + 1, 0, none⟩) (by simp) (.int .i64 0)
      have f1 := ((d1.far (p := ⟨w.heap.size, 0, none⟩) (by simp) (.int .i64 k)).far (p := ⟨w.heap.size, 1, none⟩) (by simp) (.string ⟨S.toArray⟩)).set_ 0 (.int .i64 0)
      refine ⟨by simp, .inl ⟨_, _, rfl, run_takeDeferred hK4, ?_⟩⟩
      have e0 := cell_kept (a := ⟨w.heap.size, 0, none⟩) ((f0.q 0).trans rfl) (grownBy_putObj' _ D (.deferred none)) (fun r e => by cases e; exact ⟨_, hK4, rfl⟩)
      have e1 := cell_kept (a := ⟨w.heap.size, 1, none⟩) ((f0.q 1).trans rfl) (grownBy_putObj' _ D (.deferred none)) (fun r e => by cases e; exact ⟨_, hK4, rfl⟩)
      have e2 := cell_kept (a := ⟨w.heap.size + 1, 0, none⟩) ((f1.q 0).trans rfl) (grownBy_putObj' _ D (.deferred none)) (fun r e => by cases e; exact ⟨_, hK4, rfl⟩)
      refine ⟨.tuple #[.agg #[.int .i64 k, .string ⟨S.toArray⟩], .int .i64 0], ?_, ?_⟩
      · simp [results, Tryz.results110, go_sem, e0, e1, e2]
      · exact ⟨(((bW3.setCell (p := ⟨w.heap.size, 0, none⟩) (Nat.le_refl _) _).setCell (p := ⟨w.heap.size, 1, none⟩) (Nat.le_refl _) _).setCell (p := ⟨w.heap.size + 1, 0, none⟩) (by simp) _).trans (belowK_b (w := w) (Nat.le_refl _) _ D _ _ (by have := HB4.out.size; omega) hK4 rfl rfl), .inr ⟨S, HDE.out, rfl⟩⟩
    case stopA =>
      rintro D c0 pre W hD hpre ⟨rfl, k0, k1, hbW, x, hx, hq⟩ hK
      gi_wp2
      refine ⟨by simp, .inl ⟨_, _, rfl, run_takeDeferred hK, ?_⟩⟩
      have q0 := cell_kept (a := ⟨w.heap.size, 0, none⟩) ((k0.q 0).trans rfl) (grownBy_putObj' _ D (.deferred none)) (fun r e => by cases e; exact ⟨_, hK, rfl⟩)
      have q1 := cell_kept (a := ⟨w.heap.size, 1, none⟩) ((k0.q 1).trans rfl) (grownBy_putObj' _ D (.deferred none)) (fun r e => by cases e; exact ⟨_, hK, rfl⟩)
      have q2 := cell_kept (a := ⟨w.heap.size + 1, 0, none⟩) ((k1.q 0).trans rfl) (grownBy_putObj' _ D (.deferred none)) (fun r e => by cases e; exact ⟨_, hK, rfl⟩)
      refine ⟨.tuple #[.agg #[.int .i64 0, .string ⟨#[]⟩], .int .i64 6], ?_, ?_⟩
      · simp [results, Tryz.results110, go_sem, q0, q1, q2]
      · refine ⟨hbW.trans (belowK_b (w := w) (Nat.le_refl _) W D _ _ (by have := HB4.out.size; omega) hK rfl rfl), .inl ⟨?_, 6, by decide, rfl⟩⟩
        obtain ⟨t, ht⟩ := hpre
        unfold decT
        rw [HW.out]
        simp only
        rw [if_neg]
        rintro ⟨_, ha⟩
        rw [List.all_eq_true] at ha
        have h1 := ha (unitN x.bytes) (by rw [← ht, units_flatU (by omega)]; exact List.mem_append_left _ (List.mem_map.2 ⟨x, hx, rfl⟩))
        rw [hq] at h1
        cases h1
  · have b1 : Below w.heap.size w w1 := (((Below.refl _ w).alloc (Nat.le_refl _) _).alloc (by simp) _).trans (hbw1.mono (by simp; omega))
    have HB1 := Lib.hid b1
    have b4 := ((((b1.alloc (by omega) (.cells #[.func (.func g) #[] lb, .int .i64 ((n : Int) + 1)] 169)).alloc (by simp; omega) (.cells #[.int .i64 k, .string (bStr c)] 97)).alloc (by simp; omega) (.cells #[.pointer none, .slice none 0 0] 104)).alloc (by simp; omega) (.cells #[.slice A c.length cp] 33)).alloc (by simp; omega) (.cells #[.int .i64 ((n : Int) + 1)] 3)
    have kb0 := ((((HI0.out.alloc (.cells #[.func (.func g) #[] lb, .int .i64 ((n : Int) + 1)] 169)).alloc (.cells #[.int .i64 k, .string (bStr c)] 97)).alloc (.cells #[.pointer none, .slice none 0 0] 104)).alloc (.cells #[.slice A c.length cp] 33)).alloc (.cells #[.int .i64 ((n : Int) + 1)] 3)
    have kb1 := ((((HI1.out.alloc (.cells #[.func (.func g) #[] lb, .int .i64 ((n : Int) + 1)] 169)).alloc (.cells #[.int .i64 k, .string (bStr c)] 97)).alloc (.cells #[.pointer none, .slice none 0 0] 104)).alloc (.cells #[.slice A c.length cp] 33)).alloc (.cells #[.int .i64 ((n : Int) + 1)] 3)
    have kf := ((((Blk.new w1 169 #[.func (.func g) #[] lb, .int .i64 ((n : Int) + 1)]).alloc (.cells #[.int .i64 k, .string (bStr c)] 97)).alloc (.cells #[.pointer none, .slice none 0 0] 104)).alloc (.cells #[.slice A c.length cp] 33)).alloc (.cells #[.int .i64 ((n : Int) + 1)] 3)
    have kt := (((Blk.new (w1.alloc (.cells #[.func (.func g) #[] lb, .int .i64 ((n : Int) + 1)] 169)) 97 #[.int .i64 k, .string (bStr c)]).alloc (.cells #[.pointer none, .slice none 0 0] 104)).alloc (.cells #[.slice A c.length cp] 33)).alloc (.cells #[.int .i64 ((n : Int) + 1)] 3)
    have kbu := ((Lib.IsBuilderF.of (Lib.fresh_isBuilder 104 5 ((w1.alloc (.cells #[.func (.func g) #[] lb, .int .i64 ((n : Int) + 1)] 169)).alloc (.cells #[.int .i64 k, .string (bStr c)] 97)))).alloc (.cells #[.slice A c.length cp] 33)).alloc (.cells #[.int .i64 ((n : Int) + 1)] 3)
    have kbs := (Blk.new (((w1.alloc (.cells #[.func (.func g) #[] lb, .int .i64 ((n : Int) + 1)] 169)).alloc (.cells #[.int .i64 k, .string (bStr c)] 97)).alloc (.cells #[.pointer none, .slice none 0 0] 104)) 33 #[.slice A c.length cp]).alloc (.cells #[.int .i64 ((n : Int) + 1)] 3)
    have kbn := Blk.new ((((w1.alloc (.cells #[.func (.func g) #[] lb, .int .i64 ((n : Int) + 1)] 169)).alloc (.cells #[.int .i64 k, .string (bStr c)] 97)).alloc (.cells #[.pointer none, .slice none 0 0] 104)).alloc (.cells #[.slice A c.length cp] 33)) 3 #[.int .i64 ((n : Int) + 1)]
    have hb14 : Below w1.heap.size w1 (((((w1.alloc (.cells #[.func (.func g) #[] lb, .int .i64 ((n : Int) + 1)] 169)).alloc (.cells #[.int .i64 k, .string (bStr c)] 97)).alloc (.cells #[.pointer none, .slice none 0 0] 104)).alloc (.cells #[.slice A c.length cp] 33)).alloc (.cells #[.int .i64 ((n : Int) + 1)] 3)) := (((((Below.refl _ _).alloc (Nat.le_refl _) _).alloc (by simp) _).alloc (by simp; omega) _).alloc (by simp; omega) _).alloc (by simp; omega) _
    have hz4 : (((((w1.alloc (.cells #[.func (.func g) #[] lb, .int .i64 ((n : Int) + 1)] 169)).alloc (.cells #[.int .i64 k, .string (bStr c)] 97)).alloc (.cells #[.pointer none, .slice none 0 0] 104)).alloc (.cells #[.slice A c.length cp] 33)).alloc (.cells #[.int .i64 ((n : Int) + 1)] 3)).heap.size = w1.heap.size + 5 := by simp
    simp only [World.size_alloc] at kb1 kt kbu kbs kbn
    generalize ((((w1.alloc (.cells #[.func (.func g) #[] lb, .int .i64 ((n : Int) + 1)] 169)).alloc (.cells #[.int .i64 k, .string (bStr c)] 97)).alloc (.cells #[.pointer none, .slice none 0 0] 104)).alloc (.cells #[.slice A c.length cp] 33)).alloc (.cells #[.int .i64 ((n : Int) + 1)] 3) = w4 at *
    have HZ4 := Lib.hid hz4
    have HB4 := Lib.hid b4
    have HB14 := Lib.hid hb14
    have KB0 := Lib.hid kb0
    have KB1 := Lib.hid kb1
    have KF := Lib.hid kf
    have KT := Lib.hid kt
    have KBU := Lib.hid kbu
    have KBS := Lib.hid kbs
    have KBN := Lib.hid (show Blk w4 (w1.heap.size + 1 + 1 + 1 + 1) 3 #[.int .i64 ((n + 1 : Nat) : Int)] from by rw [HCA.out]; exact kbn)
    clear hz4 b1 b4 hb14 kb0 kb1 kf kt kbu kbs kbn q0 f0 q1 f1 k1 k3 hbw1 hF hgm
    refine wpIn_rangeFunc_ownF rfl (by omega) (gf := 190) (lb := #[.pointer (some ⟨w1.heap.size + 1 + 1 + 1, 0, none⟩), .pointer (some ⟨w1.heap.size + 1 + 1 + 1 + 1, 0, none⟩)]) rfl trivial (enters_of Tryz.func190 (by kernel_rfl) rfl)
      (chunk_stops 5 (by omega) w (n + 1) (by omega) (by omega) (.slice A c.length cp) c hc HM.out HV0.out (w1.heap.size + 1 + 1 + 1) (w1.heap.size + 1 + 1 + 1 + 1) (w1.heap.size + 1 + 1) w4 KBS.out KBN.out) (fun h k => h.trans k) ?hKbB (Below.refl _ _) (fun _ => rfl)
      (DecI k w4 (w1.heap.size + 1 + 1) (w1.heap.size + 1 + 1 + 1) (w1.heap.size + 1 + 1 + 1 + 1)) (DecX k w.heap.size (w.heap.size + 1) w)
      (decI_own k w4 _ _ _ (by have := HZ4.out; omega) (by have := HZ4.out; omega) (by have := HZ4.out; omega)) (fun c => decX_own k _ _ w w4 HB4.out.size c) ?h0B ?a1B ?assignB ?bodyB ?doneB ?stopB
    case hKbB =>
      intro W l o o' hl ho hc1 hc2
      have hz4 := HZ4.out
      exact ⟨belowK_b (w := w4) (by omega) W l o o' hl ho hc1 hc2, World.putObj_heap_other (fun e => by omega), World.putObj_heap_other (fun e => by omega)⟩
    case h0B => exact ⟨Below.refl _ _, rfl, rfl, KBU.out, by simp⟩
    case assignB =>
      intro l x W K hK
      gi_wp2
      exact hK
    case bodyB =>
      intro l pre x W hI hlenp
      obtain ⟨hbel, hbs, hbn, hbu, hall⟩ := hI
      have hz4 := HZ4.out
      have kf := KF.out.below hbel (by omega)
      have kb0 := KB0.out.below hbel (by omega)
      have kb1 := KB1.out.below hbel (by omega)
      have HBEL := Lib.hid hbel
      have HBU := Lib.hid hbu
      have HBSN := Lib.hid (And.intro hbs hbn)
      have HALL := Lib.hid hall
      have hBW : Below w.heap.size w W := HB4.out.trans (hbel.mono (by omega))
      have hszW : w4.heap.size ≤ W.heap.size := hbel.size
      have hxv : IsB w x.1.1 x.bytes := x.2.1
      have hxl : x.bytes.length = n + 1 := x.2.2
      have HXV := Lib.hid hxv
      have HXL := Lib.hid hxl
      have hxW := hxv.below hBW
      obtain ⟨Ax, cx, hve⟩ := isB_slice hxW
      rw [hve] at hxW
      have HXW := Lib.hid hxW
      have hlx := HXW.out.len (P := Tryz.prog) ulB
      have qf := kf.q
      have HK0 := Lib.hid kb0
      have HK1 := Lib.hid kb1
      have HKF := Lib.hid kf
      have HBW := Lib.hid hBW
      have HZW := Lib.hid hszW
      have HLN : Hid (((unitsU pre).flatMap enc1).length + 4 ≤ 140737488355328) := by
        have h1 : ((unitsU pre).flatMap enc1).length ≤ 4 * pre.length := flat_enc_le pre (fun y hy => hasK_okc (hall y hy))
        show _ + 4 ≤ _
        omega
      clear hbel hbu hbs hbn hall hBW hxv hxl hxW kb0 kb1 hszW hz4
      gi_wp2
      gi_loop [11, 51] (fun xx ix => UxRel x.bytes xx ix) (fun _ ix => x.bytes.length + 1 - (intOf ix).toNat)
      case atStart => exact ⟨0, Nat.zero_le _, rfl, rfl⟩
      case round =>
        obtain ⟨j, hj, rfl, rfl⟩ := hrel
        by_cases hlt : j < x.bytes.length
        · have hj3 : j ≤ 3 := by have := HXL.out; omega
          obtain ⟨bq, oq, hi1, hl1, hc1⟩ := HXW.out.at_ (P := Tryz.prog) ulB szB .i64 (i := (j : Int)) (by omega) (by omega)
          simp only [Int.toNat_natCast] at hc1
          have htk := unitN_take x.bytes j hlt
          have hX := unitN_lt (x.bytes.take j)
          rw [List.length_take, Nat.min_eq_left (by omega)] at hX
          have hX2 : unitN (x.bytes.take j) ≤ 16777215 := by
            have : 256 ^ j ≤ 256 ^ 3 := Nat.pow_le_pow_right (by decide) hj3
            omega
          have ho1 := bat_lt x.bytes j
          have ho0 := bat_pos x.bytes j
          have hbt : ((x.bytes.getD j 0).toNat : Int) = bat x.bytes j := rfl
          have HTK := Lib.hid (show ((unitN (x.bytes.take (j + 1)) : Nat) : Int) = ((unitN (x.bytes.take j) : Nat) : Int) * 256 + bat x.bytes j from by rw [htk, ← hbt]; omega)
          clear htk hX hbt
          have hX3 : ((unitN (x.bytes.take j) : Nat) : Int) ≤ 16777215 := by omega
          have hX0 : (0 : Int) ≤ ((unitN (x.bytes.take j) : Nat) : Int) := by omega
          generalize ((unitN (x.bytes.take j) : Nat) : Int) = X at *
          generalize bat x.bytes j = o at *
          have hor := or_low X o hX0 hX3 ho0 ho1
          have hltI : (j : Int) < x.bytes.length := by omega
          clear hX2
          gi_wp2
          exact ⟨⟨j + 1, by omega, by (first | go_num | (congr 1; omega)), by rw [HTK.out]⟩, by (simp [intOf]; try omega)⟩
        · have hje : j = x.bytes.length := by omega
          subst hje
          rw [List.take_length]
          have HX := Lib.hid (rfl : unitN x.bytes = unitN x.bytes)
          obtain ⟨g', lb', e, eg, hcl⟩ := HA.out
          injection e with e1 e2 e3
          injection e1 with e1
          subst e1 e3
          have HCL := Lib.hid (fun (X : Int) (h0 : 0 ≤ X) (h1 : X ≤ 1114111) => hcl W X (fun b _ hlt => (HBEL.out.block b (by omega)).trans (HB14.out.block b hlt)) h0 h1)
          have hlI : (x.bytes.length : Int) ≤ x.bytes.length := by omega
          clear hcl e2
          obtain ⟨X, hX⟩ : ∃ X : Int, X = ((unitN x.bytes : Nat) : Int) := ⟨_, rfl⟩
          have hX0 : 0 ≤ X := by omega
          have HXE := Lib.hid hX
          rw [← hX]
          have hXu : X < 4294967296 := by
            have h1 := unitN_lt x.bytes
            have h2 := HXL.out
            have h3 : 256 ^ x.bytes.length ≤ 256 ^ 4 := Nat.pow_le_pow_right (by decide) (by omega)
            omega
          clear hX
          by_cases hXm : X ≤ 1114111
          · have hcall := HCL.out X hX0 hXm
            cases hq : hasK k X with
            | true =>
              rw [hq] at hcall
              have HQ := Lib.hid hq
              clear hq
              have hbu2 := HBU.out
              gi_wp2_with (first | ((refine ⟨trivial, ?_⟩); (with_reducible refine (CallsIn.inRound l (callsIn_wide.2 hcall)).mono ?_); rintro e W2 ⟨rfl, hb2⟩; have hbuW := builder_keep HBU.out (keepC_below hb2); have HBUW := Lib.hid hbuW; have hb2s := hb2.size; clear hbuW) | ((refine ⟨trivial, ?_⟩); (gi_at_call 146); (refine (CallsIn.inRound l (callsIn_wide.2 (Tryz.Builder_WriteRune_k (w1.heap.size + 1 + 1) (w1.heap.size + 1 + 1) _ X (by omega) (by omega) W2 HBUW.out (by rw [Lib.byteCells_length]; exact HLN.out) (by have := HZ4.out; have := HZW.out; omega)))).mono ?_); rintro e W3 ⟨rfl, hbd, hb3, hok⟩))
              have hz4 := HZ4.out
              have hzW := HZW.out
              have hst : ∀ (i : Nat) (t : TypeId) (cs : Array Value), Blk W2 i t cs → t ≠ 5 → i ≠ w1.heap.size + 1 + 1 → W3.heap[i]? = some (.cells cs t (0, 0)) := fun i t cs h ht hi => hok i _ h (by simp; exact hi) (fun c' fz e => by injection e with e1 e2 e3; exact ht e2)
              have hbsW : Blk W2 (w1.heap.size + 1 + 1 + 1) _ _ := (hb2.block _ (by omega)).trans (HBSN.out.1.trans KBS.out)
              have hbnW : Blk W2 (w1.heap.size + 1 + 1 + 1 + 1) _ _ := (hb2.block _ (by omega)).trans (HBSN.out.2.trans KBN.out)
              have e3s := hst _ _ _ hbsW (by decide) (by omega)
              have e3n := hst _ _ _ hbnW (by decide) (by omega)
              have hb23 : Below (w1.heap.size + 1 + 1) W W3 := (hb2.mono (by omega)).trans hb3
              refine ⟨⟨Nat.le_trans hb2.size hb3.size, fun kk o hk ho => hok kk o ((hb2.block kk (Array.getElem?_eq_some_iff.1 hk).1).trans hk) (fun e => ?_) (fun c' fz e => by subst e; cases ho)⟩, ⟨hb23, e3s.trans (HBSN.out.1.trans KBS.out).symm, e3n.trans (HBSN.out.2.trans KBN.out).symm⟩, HBEL.out.trans hb23, e3s.trans KBS.out.symm, e3n.trans KBN.out.symm, ?_, fun y hy => ?_⟩
              · injection e with e
                subst e
                rcases HBU.out with ⟨_, v, hb, _⟩ | ⟨_, v, hb, _⟩ <;> (rw [hb] at hk; cases hk; cases ho)
              · refine Or.inr ?_
                rw [unitsU_snoc, List.flatMap_append, Lib.byteCells_append]
                have : ([unitN x.bytes].flatMap enc1) = Lib.encodeRune X := by rw [HXE.out]; simp [enc1]
                rw [this, Lib.byteCells_encodeRune]
                exact hbd
              · rcases List.mem_append.1 hy with hy | hy
                · exact HALL.out y hy
                · rw [List.mem_singleton] at hy; subst hy; rw [← HXE.out]; exact HQ.out
            | false =>
              rw [hq] at hcall
              have HQ := Lib.hid hq
              clear hq
              gi_wp2_with (first | ((refine ⟨trivial, ?_⟩); (with_reducible refine (CallsIn.inRound l (callsIn_wide.2 hcall)).mono ?_); rintro e W2 ⟨rfl, hb2⟩; have c0 := HK0.out.call hb2; have c1 := HK1.out.call hb2; have p0 := c0.q; have z0 := c0.fz; have p1 := c1.q; have z1 := c1.fz; simp at p1 z1))
              have hz4 := HZ4.out
              have hzW := HZW.out
              have s2 := hb2.size
              have kp : KeepsOthers W W2 := ⟨hb2.size, fun kk o hk _ => (hb2.block kk (Array.getElem?_eq_some_iff.1 hk).1).trans hk⟩
              have bw2 : Below w.heap.size w W2 := HBW.out.trans (hb2.mono (by omega))
              refine ⟨((kp.trans (KeepsOthers.setCell _ _ _)).trans (KeepsOthers.setCell _ _ _)).trans (KeepsOthers.setCell _ _ _), rfl, ?_, ?_, ((bw2.setCell (p := ⟨w.heap.size, 0, none⟩) (Nat.le_refl _) _).setCell (p := ⟨w.heap.size, 1, none⟩) (Nat.le_refl _) _).setCell (p := ⟨w.heap.size + 1, 0, none⟩) (by simp) _, x, by simp, by rw [← HXE.out]; exact HQ.out⟩
              · exact ((c0.set_ 0 _).set_ 1 _).far (p := ⟨w.heap.size + 1, 0, none⟩) (by simp) _
              · exact ((c1.far (p := ⟨w.heap.size, 0, none⟩) (by simp) _).far (p := ⟨w.heap.size, 1, none⟩) (by simp) _).set_ 0 _
          · have hXm' : (1114111 : Int) < X := by omega
            have c0 := HK0.out
            have c1 := HK1.out
            have p0 := c0.q
            have z0 := c0.fz
            have p1 := c1.q
            have z1 := c1.fz
            simp at p1 z1
            gi_wp2
            refine ⟨fun _ h => (by cases h), ?_⟩
            gi_wp2
            refine ⟨((KeepsOthers.setCell _ _ _).trans (KeepsOthers.setCell _ _ _)).trans (KeepsOthers.setCell _ _ _), rfl, ?_, ?_, ((HBW.out.setCell (p := ⟨w.heap.size, 0, none⟩) (Nat.le_refl _) _).setCell (p := ⟨w.heap.size, 1, none⟩) (Nat.le_refl _) _).setCell (p := ⟨w.heap.size + 1, 0, none⟩) (by simp) _, x, by simp, ?_⟩
            · exact ((c0.set_ 0 _).set_ 1 _).far (p := ⟨w.heap.size + 1, 0, none⟩) (by simp) _
            · exact ((c1.far (p := ⟨w.heap.size, 0, none⟩) (by simp) _).far (p := ⟨w.heap.size, 1, none⟩) (by simp) _).set_ 0 _
            · rw [← HXE.out]
              cases hq : hasK k X with
              | false => rfl
              | true => have := okc_iff.1 (hasK_okc hq); omega
    case doneB =>
      rintro D xs W hD hfl ⟨hbel, hbs, hbn, hbu, hall⟩ hK
      have hz4 := HZ4.out
      have hzW := hbel.size
      have HBEL := Lib.hid hbel
      have HBU := Lib.hid hbu
      have HALL := Lib.hid hall
      have HFL := Lib.hid hfl
      have HDD := Lib.hid hK
      have HBW := Lib.hid (HB4.out.trans (hbel.mono (by omega)))
      have kb0 := KB0.out.below hbel (by omega)
      have kb1 := KB1.out.below hbel (by omega)
      have kt := KT.out.below hbel (by omega)
      have HK0 := Lib.hid kb0
      have HK1 := Lib.hid kb1
      have HKT := Lib.hid kt
      clear hbel hbu hbs hbn hall hfl hK kb0 kb1 kt
      obtain ⟨S, hS⟩ : ∃ S, S = (unitsU xs).flatMap enc1 := ⟨_, rfl⟩
      have hun : units (n + 1) c = unitsU xs := by
        have := units_flatU (by omega : 0 < n + 1) xs []
        rw [List.append_nil, HFL.out, units_nil, List.append_nil] at this
        exact this
      have hok : ∀ y ∈ unitsU xs, hasK k (y : Int) = true := fun y hy => by
        obtain ⟨x, hx, rfl⟩ := List.mem_map.1 hy
        exact HALL.out x hx
      have hVT : validT k S = true := by
        rw [hS]
        exact validT_iff.2 ⟨by rw [HW.out]; rfl, _, pts_of _ (fun y hy => hasK_okc (hok y hy)), hok⟩
      have hDE : decT k c = some S := by
        unfold decT
        rw [HW.out]
        simp only
        rw [if_pos ⟨HM.out, by rw [hun, List.all_eq_true]; exact hok⟩, hun, hS]
      have hSl : S.length ≤ 4000000 := by
        have h1 := flat_enc_le xs (fun y hy => hasK_okc (HALL.out y hy))
        have h2 : (unitsU xs).length = xs.length := by simp [unitsU]
        have h3 : xs.length ≤ c.length := by
          have h4 := congrArg List.length HFL.out
          have h5 : ∀ ys : List (UnitT w (n + 1)), ys.length ≤ (flatU ys).length := by
            intro ys
            induction ys with
            | nil => simp
            | cons y t ih =>
              have hl : y.bytes.length = n + 1 := y.2.2
              have e : flatU (y :: t) = y.bytes ++ flatU t := rfl
              rw [e, List.length_append, List.length_cons, hl]
              omega
          have := h5 xs
          omega
        rw [hS]
        omega
      have HVA : Hid (∀ W, Glo W → Calls Tryz.prog 139 #[.agg #[.int .i64 k, .string ⟨S.toArray⟩]] W (RetB (.bool true) W)) := fun W h => by
        have := valid_any k ⟨S.toArray⟩ W (fun _ => HKO.out) h (by show S.toArray.size ≤ _; simp; omega)
        have e : (⟨S.toArray⟩ : ByteArray).data.toList = S := by simp
        rw [e, hVT] at this
        exact this
      have HBU2 := HBU.out
      rw [← hS] at HBU2
      have HB2 := Lib.hid HBU2
      have HDE := Lib.hid hDE
      have HGW := Lib.hid (HG.out.below HBW.out)
      clear HBU2 hS hun hok hVT hDE hSl HBU
      have hbbW : w1.heap.size + 1 + 1 ≤ W.heap.size := by omega
      gi_wp2_with (first | ((refine ⟨trivial, ?_⟩); (gi_at_call 78); (refine (callsIn_wide.2 (Tryz.Builder_String_any_k (w1.heap.size + 1 + 1) (w1.heap.size + 1 + 1) S W HB2.out hbbW)).mono ?_); rintro e W2 ⟨rfl, _, hb2, hok2⟩; have c0 := HK0.out.below hb2 (by omega); have c1 := HK1.out.below hb2 (by omega); have ct := HKT.out.below hb2 (by omega); have q0 := c0.q; have z0 := c0.fz; have q1 := c1.q; have z1 := c1.fz; have qt := ct.q; have zt := ct.fz) | ((refine ⟨trivial, ?_⟩); (gi_at_call 139); (with_reducible refine (callsIn_wide.2 (HVA.out _ (HG.out.below ((HBW.out.trans (hb2.mono (by omega))).setCell (p := ⟨w1.heap.size + 1, 1, none⟩) (by simp; omega) _)))).mono ?_); rintro e W3 ⟨rfl, hb3⟩; have d0 := (c0.far (p := ⟨w1.heap.size + 1, 1, none⟩) (by simp; omega) (.string ⟨S.toArray⟩)).call hb3; have d1 := (c1.far (p := ⟨w1.heap.size + 1, 1, none⟩) (by simp; omega) (.string ⟨S.toArray⟩)).call hb3; have dt := (ct.set_ 1 (.string ⟨S.toArray⟩)).call hb3; have r0 := d0.q; have s0 := d0.fz; have r1 := d1.q; have s1 := d1.fz; have rt := dt.q; simp at rt))
      have hK2 : W2.heap[D]? = some (.deferred (some [])) := hok2 D _ HDD.out (fun e => by
        injection e with e
        subst e
        have := HDD.out
        rcases HB2.out with ⟨_, v, hb, _⟩ | ⟨_, v, hb, _⟩ <;> (rw [hb] at this; cases this)) (fun c' fz e => by cases e)
      have hK2' := (KeepsOthers.setCell W2 ⟨w1.heap.size + 1, 1, none⟩ (.string ⟨S.toArray⟩)).same D _ hK2 rfl
      have hK3 := (hb3.block D (Array.getElem?_eq_some_iff.1 hK2').1).trans hK2'
      have hK4 := (((KeepsOthers.setCell W3 ⟨w.heap.size, 0, none⟩ (.int .i64 k)).trans (KeepsOthers.setCell _ ⟨w.heap.size, 1, none⟩ (.string ⟨S.toArray⟩))).trans (KeepsOthers.setCell _ ⟨w.heap.size + 1, 0, none⟩ (.int .i64 0))).same D _ hK3 rfl
      have bW3 : Below w.heap.size w W3 := (((HBW.out.trans (hb2.mono (by omega))).setCell (p := ⟨w1.heap.size + 1, 1, none⟩) (by simp; omega) (.string ⟨S.toArray⟩))).trans (hb3.mono (by have := HBW.out.size; have := hb2.size; simp; omega))
      have f0 := ((d0.set_ 0 (.int .i64 k)).set_ 1 (.string ⟨S.toArray⟩)).far (p := ⟨w.heap.size + 1, 0, none⟩) (by simp) (.int .i64 0)
      have f1 := ((d1.far (p := ⟨w.heap.size, 0, none⟩) (by simp) (.int .i64 k)).far (p := ⟨w.heap.size, 1, none⟩) (by simp) (.string ⟨S.toArray⟩)).set_ 0 (.int .i64 0)
      refine ⟨by simp, .inl ⟨_, _, rfl, run_takeDeferred hK4, ?_⟩⟩
      have e0 := cell_kept (a := ⟨w.heap.size, 0, none⟩) ((f0.q 0).trans rfl) (grownBy_putObj' _ D (.deferred none)) (fun r e => by cases e; exact ⟨_, hK4, rfl⟩)
      have e1 := cell_kept (a := ⟨w.heap.size, 1, none⟩) ((f0.q 1).trans rfl) (grownBy_putObj' _ D (.deferred none)) (fun r e => by cases e; exact ⟨_, hK4, rfl⟩)
      have e2 := cell_kept (a := ⟨w.heap.size + 1, 0, none⟩) ((f1.q 0).trans rfl) (grownBy_putObj' _ D (.deferred none)) (fun r e => by cases e; exact ⟨_, hK4, rfl⟩)
      refine ⟨.tuple #[.agg #[.int .i64 k, .string ⟨S.toArray⟩], .int .i64 0], ?_, ?_⟩
      · simp [results, Tryz.results110, go_sem, e0, e1, e2]
      · exact ⟨(((bW3.setCell (p := ⟨w.heap.size, 0, none⟩) (Nat.le_refl _) _).setCell (p := ⟨w.heap.size, 1, none⟩) (Nat.le_refl _) _).setCell (p := ⟨w.heap.size + 1, 0, none⟩) (by simp) _).trans (belowK_b (w := w) (Nat.le_refl _) _ D _ _ (by have := HB4.out.size; omega) hK4 rfl rfl), .inr ⟨S, HDE.out, rfl⟩⟩
    case stopB =>
      rintro D c0 pre W hD hpre ⟨rfl, k0, k1, hbW, x, hx, hq⟩ hK
      gi_wp2
      refine ⟨by simp, .inl ⟨_, _, rfl, run_takeDeferred hK, ?_⟩⟩
      have q0 := cell_kept (a := ⟨w.heap.size, 0, none⟩) ((k0.q 0).trans rfl) (grownBy_putObj' _ D (.deferred none)) (fun r e => by cases e; exact ⟨_, hK, rfl⟩)
      have q1 := cell_kept (a := ⟨w.heap.size, 1, none⟩) ((k0.q 1).trans rfl) (grownBy_putObj' _ D (.deferred none)) (fun r e => by cases e; exact ⟨_, hK, rfl⟩)
      have q2 := cell_kept (a := ⟨w.heap.size + 1, 0, none⟩) ((k1.q 0).trans rfl) (grownBy_putObj' _ D (.deferred none)) (fun r e => by cases e; exact ⟨_, hK, rfl⟩)
      refine ⟨.tuple #[.agg #[.int .i64 0, .string ⟨#[]⟩], .int .i64 6], ?_, ?_⟩
      · simp [results, Tryz.results110, go_sem, q0, q1, q2]
      · refine ⟨hbW.trans (belowK_b (w := w) (Nat.le_refl _) W D _ _ (by have := HB4.out.size; omega) hK rfl rfl), .inl ⟨?_, 6, by decide, rfl⟩⟩
        obtain ⟨t, ht⟩ := hpre
        unfold decT
        rw [HW.out]
        simp only
        rw [if_neg]
        rintro ⟨_, ha⟩
        rw [List.all_eq_true] at ha
        have h1 := ha (unitN x.bytes) (by rw [← ht, units_flatU (by omega)]; exact List.mem_append_left _ (List.mem_map.2 ⟨x, hx, rfl⟩))
        rw [hq] at h1
        cases h1

theorem decT_any (k : Int) (v : Value) (c : List UInt8) (w : World) (hK : (widthK k).isSome = true → KindOk k) (hG : Glo w) (hv : IsB w v c) (hc : c.length ≤ 1000000) : Calls Tryz.prog 110 #[.int .i64 k, v] w (RetDe k (decT k c) w) := by
  cases hk : widthK k with
  | none =>
    have : decT k c = none := by unfold decT; rw [hk]
    rw [this]
    exact decT_no k v c w hk hv
  | some n =>
    have hK' := hK (by rw [hk]; rfl)
    cases n with
    | zero => exact decT_zero k v c w hk hK' hG hv hc
    | succ n =>
      by_cases hm : c.length % (n + 1) = 0
      · exact decT_loop k n v c w hk hK' hG hv hc hm
      · have : decT k c = none := by
          unfold decT
          rw [hk]
          simp only
          rw [if_neg (fun h => hm h.1)]
        rw [this]
        have hn1 : 1 < n + 1 := by
          rcases Nat.eq_zero_or_pos n with h | h
          · subst h; exact absurd (Nat.mod_one _) hm
          · omega
        exact decT_bad k (n + 1) v c w hk hK' hv hn1 hm
end Go.Proofs.YtlmnmgokfnnbbaaGreatDoor
end

/- Walks over attribute.String, FromString, Directory. -/
section
set_option linter.unusedSimpArgs false
set_option linter.unusedVariables false
namespace Go.Proofs.YtlmnmgokfnnbbaaGreatDoor
open Go.RowKit Go.Cr
def strD (b : List UInt8) : Option (Int × List UInt8) :=
  match oneE b with
  | .ok x => if x.cls = 0 ∧ x.con = false then (decT x.num (seg b x.body x.stop)).map (fun s => (x.num, s)) else none
  | .error _ => none
def txV : Option (Int × List UInt8) → Value
  | none => .agg #[.int .i64 0, .string ⟨#[]⟩]
  | some (k, s) => .agg #[.int .i64 k, .string (bStr s)]
def RetStr (o : Option (Int × List UInt8)) (w : World) (e : Ending) (w' : World) : Prop := e = .returned (.tuple #[txV o, .bool o.isSome]) ∧ Below w.heap.size w w'

theorem RetDe.uni {k : Int} {o : Option (List UInt8)} {w : World} {e : Ending} {w' : World} (h : RetDe k o w e w') : ∃ (kk : Int) (ss : ByteArray) (ec : Int), e = .returned (.tuple #[.agg #[.int .i64 kk, .string ss], .int .i64 ec]) ∧ (ec == 0) = o.isSome ∧ .agg #[.int .i64 kk, .string ss] = txV (o.map (fun s => (k, s))) ∧ Below w.heap.size w w' := by
  obtain ⟨hb, ⟨rfl, ec, hec, he⟩ | ⟨s, rfl, he⟩⟩ := h
  · exact ⟨0, ⟨#[]⟩, ec, he, beq_eq_false_iff_ne.2 hec, rfl, hb⟩
  · exact ⟨k, bStr s, 0, he, rfl, rfl, hb⟩
set_option maxRecDepth 100000 in
set_option maxHeartbeats 4000000 in
theorem string_err (v : Value) (b : List UInt8) (w : World) (hv : IsB w v b) (ec eo : Int) (he : oneE b = .error (ec, eo)) (hec : ec ≠ 0) : Calls Tryz.prog 74 #[v] w (RetStr none w) := by
  have HO : Hid (∀ W, IsB W v b → Calls Tryz.prog 86 #[v] W (RetB (.tuple #[.agg #[.int .i64 0, .int .i64 0, .bool false, .int .i64 0, .int .i64 0, .int .i64 0], .agg #[.int .i64 ec, .int .i64 eo]]) W)) := fun W h => by have := one_any v b W h; rw [he] at this; exact this
  have HV := Lib.hid hv
  obtain ⟨A, c, rfl⟩ := isB_slice hv
  have h0 : (ec != 0) = true := by simp [hec]
  have h0' : (ec == 0) = false := beq_eq_false_iff_ne.2 hec
  clear hv he hec
  go_enter Tryz.func74, Tryz.ntmps74
  go_wp2_with (((go_at_call 86); (with_reducible refine (HO.out _ (HV.out.alloc _)).mono ?_); rintro e w1 ⟨rfl, hbw1⟩; have I0 := Blk.call (Blk.new w 97 #[.int .i64 0, .string ⟨#[]⟩]) hbw1; have q0 := I0.q; have f0 := I0.fz; have l0 := I0.lt))
  refine bodyPost_ret (v := .tuple #[.agg #[.int .i64 0, .string ⟨#[]⟩], .bool false]) (by simp only [results, Tryz.results74]; go_simp) rfl ?_
  have b1 : Below w.heap.size w w1 := ((Below.refl _ w).alloc (Nat.le_refl _) _).trans (hbw1.mono (by simp))
  exact ⟨rfl, by ((repeat' (first | (with_reducible exact Below.refl _ _) | (with_reducible assumption) | (with_reducible refine Below.setCell ?_ ?_ _) | (with_reducible refine Below.alloc ?_ ?_ _) | (with_reducible refine Below.drew ?_) | (with_reducible refine below_drewN ?_ _) | (with_reducible refine Below.step (by with_reducible assumption) ?_ ?_))) <;> (first | omega | (simp; done) | (simp; omega)))⟩

set_option maxRecDepth 100000 in
set_option maxHeartbeats 4000000 in
theorem string_other (v : Value) (b : List UInt8) (w : World) (hv : IsB w v b) (x : Elem) (he : oneE b = .ok x) (hx : x.cls ≠ 0 ∨ x.con = true) : Calls Tryz.prog 74 #[v] w (RetStr none w) := by
  obtain ⟨xc, xn, xk, xs, xb, xe⟩ := x
  have HO : Hid (∀ W, IsB W v b → Calls Tryz.prog 86 #[v] W (RetB (.tuple #[.agg #[.int .i64 xc, .int .i64 xn, .bool xk, .int .i64 xs, .int .i64 xb, .int .i64 xe], .agg #[.int .i64 0, .int .i64 0]]) W)) := fun W h => by have := one_any v b W h; rw [he] at this; exact this
  have HV := Lib.hid hv
  obtain ⟨A, c, rfl⟩ := isB_slice hv
  simp only at hx
  clear hv he
  by_cases hc : xc = 0
  · subst hc
    obtain rfl : xk = true := hx.elim (fun h => absurd rfl h) id
    clear hx
    go_enter Tryz.func74, Tryz.ntmps74
    go_wp2_with (((go_at_call 86); (with_reducible refine (HO.out _ (HV.out.alloc _)).mono ?_); rintro e w1 ⟨rfl, hbw1⟩; have I0 := Blk.call (Blk.new w 97 #[.int .i64 0, .string ⟨#[]⟩]) hbw1; have q0 := I0.q; have f0 := I0.fz; have l0 := I0.lt))
    refine bodyPost_ret (v := .tuple #[.agg #[.int .i64 0, .string ⟨#[]⟩], .bool false]) (by simp only [results, Tryz.results74]; go_simp) rfl ?_
    have b1 : Below w.heap.size w w1 := ((Below.refl _ w).alloc (Nat.le_refl _) _).trans (hbw1.mono (by simp))
    exact ⟨rfl, by ((repeat' (first | (with_reducible exact Below.refl _ _) | (with_reducible assumption) | (with_reducible refine Below.setCell ?_ ?_ _) | (with_reducible refine Below.alloc ?_ ?_ _) | (with_reducible refine Below.drew ?_) | (with_reducible refine below_drewN ?_ _) | (with_reducible refine Below.step (by with_reducible assumption) ?_ ?_))) <;> (first | omega | (simp; done) | (simp; omega)))⟩
  · have h0 : (xc != 0) = true := by simp [hc]
    have h0' : (xc == 0) = false := beq_eq_false_iff_ne.2 hc
    clear hx hc
    go_enter Tryz.func74, Tryz.ntmps74
    go_wp2_with (((go_at_call 86); (with_reducible refine (HO.out _ (HV.out.alloc _)).mono ?_); rintro e w1 ⟨rfl, hbw1⟩; have I0 := Blk.call (Blk.new w 97 #[.int .i64 0, .string ⟨#[]⟩]) hbw1; have q0 := I0.q; have f0 := I0.fz; have l0 := I0.lt))
    refine bodyPost_ret (v := .tuple #[.agg #[.int .i64 0, .string ⟨#[]⟩], .bool false]) (by simp only [results, Tryz.results74]; go_simp) rfl ?_
    have b1 : Below w.heap.size w w1 := ((Below.refl _ w).alloc (Nat.le_refl _) _).trans (hbw1.mono (by simp))
    exact ⟨rfl, by ((repeat' (first | (with_reducible exact Below.refl _ _) | (with_reducible assumption) | (with_reducible refine Below.setCell ?_ ?_ _) | (with_reducible refine Below.alloc ?_ ?_ _) | (with_reducible refine Below.drew ?_) | (with_reducible refine below_drewN ?_ _) | (with_reducible refine Below.step (by with_reducible assumption) ?_ ?_))) <;> (first | omega | (simp; done) | (simp; omega)))⟩

set_option maxRecDepth 100000 in
set_option maxHeartbeats 4000000 in
theorem string_good (v : Value) (b : List UInt8) (w : World) (hG : Glo w) (hv : IsB w v b) (hb : b.length ≤ 1000000) (xn xs xb xe : Int) (he : oneE b = .ok ⟨0, xn, false, xs, xb, xe⟩) (h0 : 0 ≤ xb) (h1 : xb ≤ xe) (h2 : xe ≤ b.length) (hK : (widthK xn).isSome = true → KindOk xn) :
    Calls Tryz.prog 74 #[v] w (RetStr ((decT xn (seg b xb xe)).map (fun s => (xn, s))) w) := by
  have HO : Hid (∀ W, IsB W v b → Calls Tryz.prog 86 #[v] W (RetB (.tuple #[.agg #[.int .i64 0, .int .i64 xn, .bool false, .int .i64 xs, .int .i64 xb, .int .i64 xe], .agg #[.int .i64 0, .int .i64 0]]) W)) := fun W h => by have := one_any v b W h; rw [he] at this; exact this
  obtain ⟨v2, hcut, hv2⟩ := hv.cut (P := Tryz.prog) ulB szB .i64 .i64 h0 h1 h2
  have hsg : (b.drop xb.toNat).take (xe - xb).toNat = seg b xb xe := rfl
  rw [hsg] at hv2
  have hsl : (seg b xb xe).length ≤ 1000000 := by unfold seg; rw [List.length_take, List.length_drop]; omega
  have HD : Hid (∀ W, Glo W → IsB W v2 (seg b xb xe) → Calls Tryz.prog 110 #[.int .i64 xn, v2] W (RetDe xn (decT xn (seg b xb xe)) W)) := fun W hg h => decT_any xn v2 _ W hK hg h hsl
  have HG := Lib.hid hG
  have HV := Lib.hid hv
  have HV2 := Lib.hid hv2
  obtain ⟨A, c, rfl⟩ := isB_slice hv
  clear hG hv he hv2 hsl hK hsg hb
  generalize seg b xb xe = sg at *
  generalize decT xn sg = DO at *
  go_enter Tryz.func74, Tryz.ntmps74
  go_wp2_with (((go_at_call 86); (with_reducible refine (HO.out _ (HV.out.alloc _)).mono ?_); rintro e w1 ⟨rfl, hbw1⟩; have I0 := Blk.call (Blk.new w 97 #[.int .i64 0, .string ⟨#[]⟩]) hbw1; have q0 := I0.q; have f0 := I0.fz; have l0 := I0.lt))
  have HB1 := Lib.hid (((Below.refl _ w).alloc (Nat.le_refl _) (.cells #[.int .i64 0, .string ⟨#[]⟩] 97)).trans (hbw1.mono (by simp)))
  have HI0 := Lib.hid I0
  have HJ := Lib.hid ((Blk.new w1 76 #[.int .i64 0, .int .i64 xn, .bool false, .int .i64 xs, .int .i64 xb, .int .i64 xe]).alloc (.cells #[.int .i64 0, .int .i64 0] 38))
  clear hbw1 I0
  go_region_held3 (fun W' => W'.cell? ⟨w1.heap.size, 1, none⟩ = some (.int .i64 xn) ∧ W'.cell? ⟨w1.heap.size, 4, none⟩ = some (.int .i64 xb) ∧ W'.cell? ⟨w1.heap.size, 5, none⟩ = some (.int .i64 xe))
    (first | go_keep | exact ⟨(Blk.q J2 1).trans rfl, (Blk.q J2 4).trans rfl, (Blk.q J2 5).trans rfl⟩ | exact ⟨(Blk.q (Blk.alloc J2 _) 1).trans rfl, (Blk.q (Blk.alloc J2 _) 4).trans rfl, (Blk.q (Blk.alloc J2 _) 5).trans rfl⟩ | (have J3 := Blk.far (Blk.far J2 (p := ⟨w1.heap.size + 1 + 1, 0, none⟩) (by show w1.heap.size ≠ w1.heap.size + 1 + 1; omega) (.int .i64 kk)) (p := ⟨w1.heap.size + 1 + 1, 1, none⟩) (by show w1.heap.size ≠ w1.heap.size + 1 + 1; omega) (.string ss); exact ⟨(J3.q 1).trans rfl, (J3.q 4).trans rfl, (J3.q 5).trans rfl⟩) | (trace_state; fail))
    (first | ((go_at_call 110); (with_reducible refine (HD.out _ (HG.out.below ((((HB1.out.alloc HB1.out.size _).alloc (by have := HB1.out.size; simp; omega) _)).drew)) (HV2.out.below ((((HB1.out.alloc HB1.out.size _).alloc (by have := HB1.out.size; simp; omega) _)).drew))).mono ?_); rintro e w2 hre; obtain ⟨kk, ss, ec, rfl, hz, htx, hbw2⟩ := RetDe.uni hre; have HTX := Lib.hid htx; clear hre htx; have I2 := Blk.call (Blk.drew (Blk.alloc (Blk.alloc HI0.out _) _)) hbw2; have J2 := Blk.call (Blk.drew HJ.out) hbw2) | ((go_at_call 110); (with_reducible refine (HD.out _ (HG.out.below ((((HB1.out.alloc HB1.out.size _).alloc (by have := HB1.out.size; simp; omega) _).alloc (by have := HB1.out.size; simp; omega) _).drew)) (HV2.out.below ((((HB1.out.alloc HB1.out.size _).alloc (by have := HB1.out.size; simp; omega) _).alloc (by have := HB1.out.size; simp; omega) _).drew))).mono ?_); rintro e w2 hre; obtain ⟨kk, ss, ec, rfl, hz, htx, hbw2⟩ := RetDe.uni hre; have HTX := Lib.hid htx; clear hre htx; have I2 := Blk.call (Blk.drew (Blk.alloc (Blk.alloc (Blk.alloc HI0.out _) _) _)) hbw2; have J2 := Blk.call (Blk.drew (Blk.alloc HJ.out _)) hbw2; have K2 := Blk.call (Blk.drew (Blk.new _ 97 #[.int .i64 0, .string ⟨#[]⟩])) hbw2; have qK := K2.q; have fK := K2.fz; simp at qK fK))
  · have s1 := HB1.out.size
    have s2 := hbw2.size
    simp at s2
    have l2 : w.heap.size < w2.heap.size := by omega
    have qI := I2.q
    have fI := I2.fz
    have b2 : Below w.heap.size w w2 := ((((HB1.out.alloc s1 _).alloc (by simp; omega) _)).drew).trans (hbw2.mono (by simp; omega))
    go_wp2_with fail
    refine bodyPost_ret (v := .tuple #[.agg #[.int .i64 kk, .string ss], .bool DO.isSome]) (by simp only [results, Tryz.results74]; go_simp) rfl ?_
    exact ⟨by rw [HTX.out, Option.isSome_map], by ((repeat' (first | (with_reducible exact Below.refl _ _) | (with_reducible assumption) | (with_reducible refine Below.setCell ?_ ?_ _) | (with_reducible refine Below.alloc ?_ ?_ _) | (with_reducible refine Below.drew ?_) | (with_reducible refine below_drewN ?_ _) | (with_reducible refine Below.step (by with_reducible assumption) ?_ ?_))) <;> (first | omega | (simp; done) | (simp; omega)))⟩
  · have s1 := HB1.out.size
    have s2 := hbw2.size
    simp at s2
    have l2 : w.heap.size < w2.heap.size := by omega
    have qI := I2.q
    have fI := I2.fz
    have b2 : Below w.heap.size w w2 := (((((HB1.out.alloc s1 _).alloc (by simp; omega) _).alloc (by simp; omega) _)).drew).trans (hbw2.mono (by simp; omega))
    go_wp2_with fail
    refine bodyPost_ret (v := .tuple #[.agg #[.int .i64 kk, .string ss], .bool DO.isSome]) (by simp only [results, Tryz.results74]; go_simp) rfl ?_
    exact ⟨by rw [HTX.out, Option.isSome_map], by ((repeat' (first | (with_reducible exact Below.refl _ _) | (with_reducible assumption) | (with_reducible refine Below.setCell ?_ ?_ _) | (with_reducible refine Below.alloc ?_ ?_ _) | (with_reducible refine Below.drew ?_) | (with_reducible refine below_drewN ?_ _) | (with_reducible refine Below.step (by with_reducible assumption) ?_ ?_))) <;> (first | omega | (simp; done) | (simp; omega)))⟩

theorem string_any (v : Value) (b : List UInt8) (w : World) (hG : Glo w) (hv : IsB w v b) (hb : b.length ≤ 1000000) (hK : ∀ x, oneE b = .ok x → (widthK x.num).isSome = true → KindOk x.num) : Calls Tryz.prog 74 #[v] w (RetStr (strD b) w) := by
  unfold strD
  cases he : oneE b with
  | error er =>
    obtain ⟨ec, eo⟩ := er
    exact string_err v b w hv ec eo he (by have := oneE_err he; omega)
  | ok x =>
    simp only
    by_cases hx : x.cls = 0 ∧ x.con = false
    · rw [if_pos hx]
      obtain ⟨xc, xn, xk, xs, xb, xe⟩ := x
      obtain ⟨rfl, rfl⟩ := hx
      have h1 := oneE_ok he
      simp only at h1
      exact string_good v b w hG hv hb xn xs xb xe he (by omega) (by omega) (by omega) (hK _ he)
    · rw [if_neg hx]
      exact string_other v b w hv x he (by
        rcases Classical.em (x.cls = 0) with h | h
        · right
          cases hc : x.con with
          | true => rfl
          | false => exact absurd ⟨h, hc⟩ hx
        · exact .inl h)
end Go.Proofs.YtlmnmgokfnnbbaaGreatDoor
end

/- Walks over attribute.FromString and Directory. -/
section
set_option linter.unusedSimpArgs false
set_option linter.unusedVariables false
namespace Go.Proofs.YtlmnmgokfnnbbaaGreatDoor
open Go.RowKit Go.Cr
def strE (k : Int) (s : List UInt8) : Option (List UInt8) := (encT k s).map fun c => encO 0 false k c
theorem widthK_range {k : Int} (h : (widthK k).isSome = true) : 12 ≤ k ∧ k ≤ 30 := by
  unfold widthK at h
  split at h
  · omega
  split at h
  · omega
  split at h
  · omega
  split at h
  · omega
  · cases h
def dirD (b : List UInt8) : Option (Int × List UInt8) := match strD b with
  | none => none
  | some (k, s) => if s = [] ∨ k = 22 ∨ k = 26 then none else some (k, s)
set_option maxRecDepth 100000 in
set_option maxHeartbeats 4000000 in
theorem otherFn (k : Int) (w : World) : Calls Tryz.prog 138 #[.int .i64 k] w (RetB (.bool (decide (k = 22 ∨ k = 26))) w) := by
  by_cases h1 : k = 22
  · subst h1
    go_enter Tryz.func138, Tryz.ntmps138
    go_wp2_with fail
    go_ret
    exact ⟨by simp, Below.refl _ _⟩
  · have e1 : (k == 22) = false := beq_eq_false_iff_ne.2 h1
    by_cases h2 : k = 26
    · subst h2
      go_enter Tryz.func138, Tryz.ntmps138
      go_wp2_with fail
      go_ret
      exact ⟨by simp, Below.refl _ _⟩
    · have e2 : (k == 26) = false := beq_eq_false_iff_ne.2 h2
      have e3 : decide (k = 22 ∨ k = 26) = false := decide_eq_false (by omega)
      rw [e3]
      clear h1 h2 e3
      go_enter Tryz.func138, Tryz.ntmps138
      go_wp2_with fail
      go_ret
      exact ⟨by simp [e2], Below.refl _ _⟩

set_option maxRecDepth 100000 in
set_option maxHeartbeats 4000000 in
theorem directory_any (v : Value) (b : List UInt8) (w : World) (hG : Glo w) (hv : IsB w v b) (hb : b.length ≤ 1000000) (hK : ∀ x, oneE b = .ok x → (widthK x.num).isSome = true → KindOk x.num) : Calls Tryz.prog 105 #[v] w (RetStr (dirD b) w) := by
  have HS : Hid (∀ W, Glo W → IsB W v b → Calls Tryz.prog 74 #[v] W (RetStr (strD b) W)) := fun W h1 h2 => string_any v b W h1 h2 hb hK
  have HG := Lib.hid hG
  have HV := Lib.hid hv
  have HO : Hid (∀ k W, Calls Tryz.prog 138 #[.int .i64 k] W (RetB (.bool (decide (k = 22 ∨ k = 26))) W)) := fun k W => otherFn k W
  obtain ⟨A, c, rfl⟩ := isB_slice hv
  unfold dirD
  clear hG hv hb hK
  generalize strD b = SD at *
  cases SD with
  | none =>
    have HS' : Hid (∀ W, Glo W → IsB W (.slice A b.length c) b → Calls Tryz.prog 74 #[.slice A b.length c] W (RetB (.tuple #[.agg #[.int .i64 0, .string ⟨#[]⟩], .bool false]) W)) := fun W h1 h2 => HS.out W h1 h2
    clear HS
    go_enter Tryz.func105, Tryz.ntmps105
    go_wp2_with (((go_at_call 74); (with_reducible refine (HS'.out _ (HG.out.alloc _) (HV.out.alloc _)).mono ?_); rintro e w1 ⟨rfl, hbw1⟩; have I0 := Blk.call (Blk.new w 97 #[.int .i64 0, .string ⟨#[]⟩]) hbw1; have q0 := I0.q; have f0 := I0.fz; have l0 := I0.lt))
    refine bodyPost_ret (v := .tuple #[.agg #[.int .i64 0, .string ⟨#[]⟩], .bool false]) (by simp only [results, Tryz.results105]; go_simp) rfl ?_
    have b1 : Below w.heap.size w w1 := ((Below.refl _ w).alloc (Nat.le_refl _) _).trans (hbw1.mono (by simp))
    exact ⟨rfl, by ((repeat' (first | (with_reducible exact Below.refl _ _) | (with_reducible assumption) | (with_reducible refine Below.setCell ?_ ?_ _) | (with_reducible refine Below.alloc ?_ ?_ _) | (with_reducible refine Below.drew ?_) | (with_reducible refine below_drewN ?_ _) | (with_reducible refine Below.step (by with_reducible assumption) ?_ ?_))) <;> (first | omega | (simp; done) | (simp; omega)))⟩
  | some p =>
    obtain ⟨k, s⟩ := p
    have HS' : Hid (∀ W, Glo W → IsB W (.slice A b.length c) b → Calls Tryz.prog 74 #[.slice A b.length c] W (RetB (.tuple #[.agg #[.int .i64 k, .string (bStr s)], .bool true]) W)) := fun W h1 h2 => HS.out W h1 h2
    clear HS
    simp only
    by_cases hs : s = []
    · subst hs
      rw [if_pos (.inl rfl)]
      have he : (bStr []).toList = [] := by rw [ByteArray.toList_eq]; rfl
      go_enter Tryz.func105, Tryz.ntmps105
      go_wp2_with (((go_at_call 74); (with_reducible refine (HS'.out _ (HG.out.alloc _) (HV.out.alloc _)).mono ?_); rintro e w1 ⟨rfl, hbw1⟩; have I0 := Blk.call (Blk.new w 97 #[.int .i64 0, .string ⟨#[]⟩]) hbw1; have q0 := I0.q; have f0 := I0.fz; have l0 := I0.lt))
      refine bodyPost_ret (v := .tuple #[.agg #[.int .i64 0, .string ⟨#[]⟩], .bool false]) (by simp only [results, Tryz.results105]; go_simp) rfl ?_
      have b1 : Below w.heap.size w w1 := ((Below.refl _ w).alloc (Nat.le_refl _) _).trans (hbw1.mono (by simp))
      exact ⟨rfl, by ((repeat' (first | (with_reducible exact Below.refl _ _) | (with_reducible assumption) | (with_reducible refine Below.setCell ?_ ?_ _) | (with_reducible refine Below.alloc ?_ ?_ _) | (with_reducible refine Below.drew ?_) | (with_reducible refine below_drewN ?_ _) | (with_reducible refine Below.step (by with_reducible assumption) ?_ ?_))) <;> (first | omega | (simp; done) | (simp; omega)))⟩
    · have he : ((bStr s).toList == (⟨#[]⟩ : ByteArray).toList) = false := by
        rw [ByteArray.toList_eq, ByteArray.toList_eq]
        exact beq_eq_false_iff_ne.2 (fun h => hs (by simpa [bStr] using h))
      have he2 : (bStr s).toList.isEmpty = false := by
        rw [ByteArray.toList_eq]
        cases s with
        | nil => exact absurd rfl hs
        | cons x t => rfl
      have he3 : ¬ ((bStr s).toList = []) := by
        rw [ByteArray.toList_eq]
        exact fun h => hs (by simpa [bStr] using h)
      by_cases ho : k = 22 ∨ k = 26
      · rw [if_pos (.inr ho)]
        have HO' : Hid (∀ W, Calls Tryz.prog 138 #[.int .i64 k] W (RetB (.bool true) W)) := fun W => by have := HO.out k W; rw [decide_eq_true ho] at this; exact this
        clear ho hs HO
        generalize bStr s = S at *
        go_enter Tryz.func105, Tryz.ntmps105
        go_wp2_with (first | ((go_at_call 74); (with_reducible refine (HS'.out _ (HG.out.alloc _) (HV.out.alloc _)).mono ?_); rintro e w1 ⟨rfl, hbw1⟩; have I0 := Blk.call (Blk.new w 97 #[.int .i64 0, .string ⟨#[]⟩]) hbw1; have q0 := I0.q; have f0 := I0.fz; have l0 := I0.lt; have HI0 := Lib.hid I0; clear I0) | ((go_at_call 138); (with_reducible refine (HO'.out _).mono ?_); rintro e w2 ⟨rfl, hbw2⟩; have I2 := Blk.call (HI0.out.alloc _) hbw2; have q2 := I2.q; have f2 := I2.fz; have l2 := I2.lt))
        refine bodyPost_ret (v := .tuple #[.agg #[.int .i64 0, .string ⟨#[]⟩], .bool false]) (by simp only [results, Tryz.results105]; go_simp) rfl ?_
        have b1 : Below w.heap.size w w1 := ((Below.refl _ w).alloc (Nat.le_refl _) _).trans (hbw1.mono (by simp))
        have b2 : Below w.heap.size w w2 := (b1.alloc b1.size _).trans (hbw2.mono (by have := b1.size; simp; omega))
        exact ⟨rfl, by ((repeat' (first | (with_reducible exact Below.refl _ _) | (with_reducible assumption) | (with_reducible refine Below.setCell ?_ ?_ _) | (with_reducible refine Below.alloc ?_ ?_ _) | (with_reducible refine Below.drew ?_) | (with_reducible refine below_drewN ?_ _) | (with_reducible refine Below.step (by with_reducible assumption) ?_ ?_))) <;> (first | omega | (simp; done) | (simp; omega)))⟩
      · rw [if_neg (fun h => h.elim hs ho)]
        have HO' : Hid (∀ W, Calls Tryz.prog 138 #[.int .i64 k] W (RetB (.bool false) W)) := fun W => by have := HO.out k W; rw [decide_eq_false ho] at this; exact this
        clear ho hs HO
        generalize hS : bStr s = S at *
        have HSS := Lib.hid hS
        clear hS
        go_enter Tryz.func105, Tryz.ntmps105
        go_wp2_with (first | ((go_at_call 74); (with_reducible refine (HS'.out _ (HG.out.alloc _) (HV.out.alloc _)).mono ?_); rintro e w1 ⟨rfl, hbw1⟩; have I0 := Blk.call (Blk.new w 97 #[.int .i64 0, .string ⟨#[]⟩]) hbw1; have q0 := I0.q; have f0 := I0.fz; have l0 := I0.lt; have HI0 := Lib.hid I0; clear I0) | ((go_at_call 138); (with_reducible refine (HO'.out _).mono ?_); rintro e w2 ⟨rfl, hbw2⟩; have I2 := Blk.call (HI0.out.alloc _) hbw2; have q2 := I2.q; have f2 := I2.fz; have l2 := I2.lt; have J2 := Blk.call (Blk.new w1 97 #[.int .i64 k, .string S]) hbw2; have p2 := J2.q))
        refine bodyPost_ret (v := .tuple #[.agg #[.int .i64 k, .string S], .bool true]) (by simp only [results, Tryz.results105]; go_simp) rfl ?_
        have b1 : Below w.heap.size w w1 := ((Below.refl _ w).alloc (Nat.le_refl _) _).trans (hbw1.mono (by simp))
        have b2 : Below w.heap.size w w2 := (b1.alloc b1.size _).trans (hbw2.mono (by have := b1.size; simp; omega))
        exact ⟨by rw [← HSS.out]; rfl, by ((repeat' (first | (with_reducible exact Below.refl _ _) | (with_reducible assumption) | (with_reducible refine Below.setCell ?_ ?_ _) | (with_reducible refine Below.alloc ?_ ?_ _) | (with_reducible refine Below.drew ?_) | (with_reducible refine below_drewN ?_ _) | (with_reducible refine Below.step (by with_reducible assumption) ?_ ?_))) <;> (first | omega | (simp; done) | (simp; omega)))⟩
end Go.Proofs.YtlmnmgokfnnbbaaGreatDoor
end
