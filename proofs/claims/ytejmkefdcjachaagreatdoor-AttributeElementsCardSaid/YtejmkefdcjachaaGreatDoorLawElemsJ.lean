/- AttributeElements: any character string has the element of the reference implementation, or its error, and is found again from it. No condition beyond the row's own. -/
import Derived.Test.YtejmkefdcjachaaGreatDoorJ41
import Derived.Test.YtejmkefdcjachaaGreatDoorJ38
import Derived.Test.YtejmkefdcjachaaGreatDoorJ51
import Derived.Test.YtejmkefdcjachaaGreatDoorJ53
import Derived.Test.YtejmkefdcjachaaGreatDoorJ36
import Derived.Test.YtejmkefdcjachaaGreatDoorTie
import Derived.Test.YtejmkefdcjachaaGreatDoorCards
import Derived.SevenTiedAt
import Derived.JoinedCond
set_option linter.unusedSimpArgs false
set_option linter.unusedVariables false
namespace Go.Proofs.YtejmkefdcjachaaGreatDoor.ElemsDone
open Go.RowKit Go.Cr Go.ChangeShapes Go.WideShapes Go.ChangeAt Go.Lib

theorem strD_enc {k : Int} {s b : List UInt8} (h : strE k s = some b) (hl : b.length ≤ 1000000) : strD b = some (k, s) := by
  unfold strE at h
  cases hc : encT k s with
  | none => rw [hc] at h; cases h
  | some c =>
    rw [hc] at h
    simp only [Option.map_some, Option.some.injEq] at h
    have hr := widthK_range (validT_iff.1 (encT_valid hc)).1
    have hcl := encO_len 0 k false c
    rw [h] at hcl
    have ht : treeOK 60 b := by rw [← h]; exact treeOK_prim 0 k c (by decide) (by decide) (by omega) (by omega) (by omega)
    have hrd : rdS b = (k, c) := by
      unfold rdS
      rw [if_pos ht, ← h, numK_enc 0 k c (by decide) (by decide) (by omega) (by omega) (by omega), kidC_enc 0 k c (by decide) (by decide) (by omega) (by omega) (by omega)]
    rw [← rstr_eq hl]
    have ho : optS (rdS b) = some (k, s) := by
      rw [hrd]
      unfold optS
      simp only [decT_iff.2 hc, Option.map_some]
    unfold rstr
    rw [ho, if_pos]
    unfold elS strE
    simp only [hc, Option.map_some, h]

set_option maxRecDepth 100000 in
set_option maxHeartbeats 4000000 in
theorem rFromS_none (k : Int) (s : ByteArray) (w : World) (hs : s.size ≤ 100000) (hn : strE k s.data.toList = none) : Calls Tryz.prog 18 #[.agg #[.int .i64 k, .string s]] w (RetB (.tuple #[.slice none 0 0, .int .i64 8]) w) := by
  have he : encT k s.data.toList = none := by
    unfold strE at hn
    cases h : encT k s.data.toList with
    | none => rfl
    | some c => rw [h] at hn; cases hn
  have HE' : Hid (∀ W, Calls Tryz.prog 40 #[.agg #[.int .i64 k, .string s]] W (RetB (.tuple #[.slice none 0 0, .int .i64 8]) W)) := fun W => by have := rEncode7 k s W hs; rw [he] at this; exact this
  clear hs he hn
  go_enter Tryz.func18, Tryz.ntmps18
  go_wp2_with (((go_at_call 40); (with_reducible refine (HE'.out _).mono ?_); rintro e w1 ⟨rfl, hbw1⟩))
  go_ret2
  exact ⟨rfl, by ((repeat' (first | (with_reducible exact Below.refl _ _) | (with_reducible assumption) | (with_reducible refine Below.setCell ?_ ?_ _) | (with_reducible refine Below.alloc ?_ ?_ _) | (with_reducible refine Below.drew ?_) | (with_reducible refine below_drewN ?_ _) | (with_reducible refine Below.step (by with_reducible assumption) ?_ ?_))) <;> (first | omega | (simp; done) | (simp; omega)))⟩
def RetFY (b : List UInt8) (w : World) (e : Ending) (w' : World) : Prop := ∃ A n kk, e = .returned (.tuple #[.slice A n kk, .int .i64 0]) ∧ IsB w' (.slice A n kk) b ∧ Below w.heap.size w w'

set_option maxRecDepth 100000 in
set_option maxHeartbeats 4000000 in
theorem no_ (k : Int) (s : ByteArray) (w : World) (hG : Glo w) (hl : s.size ≤ 1000) (hn : strE k s.data.toList = none) : Calls Tryz.prog 4 #[.agg #[.int .i64 k, .string s]] w (RetB (.bool true) w) := by
  have HA : Hid (∀ W, Glo W → Calls Tryz.prog 11 #[] W (RetB (.bool true) W)) := awake_any
  have HF : Hid (∀ W, Glo W → Calls Tryz.prog 16 #[.agg #[.int .i64 k, .string s]] W (RetB (.tuple #[.slice none 0 0, .int .i64 8]) W)) := fun W g => (fromString k s W (kindOk_all k) g (by omega)).mono fun e w' hh => by
    rw [hn] at hh
    obtain ⟨hb, ⟨_, he⟩ | ⟨c, v, h, _⟩⟩ := hh
    · exact ⟨he, hb⟩
    · cases h
  have HR : Hid (∀ W, Calls Tryz.prog 18 #[.agg #[.int .i64 k, .string s]] W (RetB (.tuple #[.slice none 0 0, .int .i64 8]) W)) := fun W => rFromS_none k s W (by omega) hn
  have HB : Hid (∀ W, Calls Tryz.prog 17 #[.slice none 0 0, .slice none 0 0] W (RetB (.bool true) W)) := fun W => by have := bytes_any (.slice none 0 0) (.slice none 0 0) [] [] W (IsB.none_ W) (IsB.none_ W); rwa [decide_eq_true rfl] at this
  have HG := Lib.hid hG
  have hl' : (s.size : Int) ≤ 1000 := by omega
  clear hG hl hn
  go_enter Tryz.func4, Tryz.ntmps4
  go_wp2_with (first | ((go_at_call 11); (with_reducible refine (HA.out _ (HG.out.alloc _)).mono ?_); rintro e w1 ⟨rfl, hbw1⟩; have HG1 := Lib.hid ((HG.out.alloc (.cells #[.int .i64 k, .string s] 25)).below hbw1); have HI1 := Lib.hid (Blk.call (Blk.new w 25 #[.int .i64 k, .string s]) hbw1); have q1 := HI1.out.q; have l1 := HI1.out.lt) | ((go_at_call 16); (with_reducible refine (HF.out _ HG1.out).mono ?_); rintro e w2 ⟨rfl, hbw2⟩; have HI2 := Lib.hid (Blk.call HI1.out hbw2); have q2 := HI2.out.q; have l2 := HI2.out.lt) | ((go_at_call 18); (with_reducible refine (HR.out w2).mono ?_); rintro e w3 ⟨rfl, hbw3⟩) | ((go_at_call 17); (with_reducible refine (HB.out w3).mono ?_); rintro e w4 ⟨rfl, hbw4⟩) | ((go_at_call 17); (with_reducible refine (HB.out w4).mono ?_); rintro e w5 ⟨rfl, hbw5⟩))
  go_ret
  have s1 := hbw1.size; have s2 := hbw2.size; have s3 := hbw3.size; have s4 := hbw4.size; have s5 := hbw5.size
  simp at s1
  have c1 : Below w.heap.size w w1 := ((Below.refl _ w).alloc (Nat.le_refl _) _).trans (hbw1.mono (by simp))
  have c5 : Below w.heap.size w w5 := (((c1.trans (hbw2.mono (by omega))).trans (hbw3.mono (by omega))).trans (hbw4.mono (by omega))).trans (hbw5.mono (by omega))
  exact ⟨by (first | rfl | simp [*]), c5⟩

set_option maxRecDepth 100000 in
set_option maxHeartbeats 4000000 in
theorem long_ (k : Int) (s : ByteArray) (w : World) (hG : Glo w) (hl : ¬ s.size ≤ 1000) : Calls Tryz.prog 4 #[.agg #[.int .i64 k, .string s]] w (RetB (.bool true) w) := by
  have HA : Hid (∀ W, Glo W → Calls Tryz.prog 11 #[] W (RetB (.bool true) W)) := awake_any
  have HG := Lib.hid hG
  have hl' : 1000 < (s.size : Int) := by omega
  clear hG hl
  go_enter Tryz.func4, Tryz.ntmps4
  go_wp2_with (first | ((go_at_call 11); (with_reducible refine (HA.out _ (HG.out.alloc _)).mono ?_); rintro e w1 ⟨rfl, hbw1⟩; have HG1 := Lib.hid ((HG.out.alloc (.cells #[.int .i64 k, .string s] 25)).below hbw1); have HI1 := Lib.hid (Blk.call (Blk.new w 25 #[.int .i64 k, .string s]) hbw1); have q1 := HI1.out.q; have l1 := HI1.out.lt) | ((go_at_call 11); (with_reducible refine (HA.out _ HG1.out).mono ?_); rintro e w2 ⟨rfl, hbw2⟩))
  go_ret
  have s1 := hbw1.size; have s2 := hbw2.size
  simp at s1
  have c1 : Below w.heap.size w w1 := ((Below.refl _ w).alloc (Nat.le_refl _) _).trans (hbw1.mono (by simp))
  exact ⟨rfl, c1.trans (hbw2.mono (by omega))⟩

set_option maxRecDepth 100000 in
set_option maxHeartbeats 4000000 in
theorem yes_ (k : Int) (s : ByteArray) (w : World) (b : List UInt8) (k2 : Int) (s2 : ByteArray) (B : Bool) (hG : Glo w) (hl : s.size ≤ 1000)
    (h1 : ∀ W, Glo W → Calls Tryz.prog 16 #[.agg #[.int .i64 k, .string s]] W (RetFY b W)) (h2 : ∀ W, Calls Tryz.prog 18 #[.agg #[.int .i64 k, .string s]] W (RetFY b W))
    (h3 : ∀ v W, Glo W → IsB W v b → Calls Tryz.prog 12 #[v] W (RetB (.tuple #[.agg #[.int .i64 k, .string s], .bool true]) W))
    (h4 : ∀ v W, Glo W → IsB W v b → Calls Tryz.prog 14 #[v] W (RetB (.tuple #[.agg #[.int .i64 k2, .string s2], .bool B]) W))
    (h5 : ∀ W, Calls Tryz.prog 19 #[.agg #[.int .i64 k, .string s]] W (RetB (.bool B) W)) :
    Calls Tryz.prog 4 #[.agg #[.int .i64 k, .string s]] w (RetB (.bool true) w) := by
  have HA : Hid (∀ W, Glo W → Calls Tryz.prog 11 #[] W (RetB (.bool true) W)) := awake_any
  have H1 := Lib.hid h1
  have H2 := Lib.hid h2
  have H3 := Lib.hid h3
  have H4 := Lib.hid h4
  have H5 := Lib.hid h5
  have HB : Hid (∀ W u x, IsB W u b → IsB W x b → Calls Tryz.prog 17 #[u, x] W (RetB (.bool true) W)) := fun W u x g1 g2 => by have := bytes_any u x b b W g1 g2; rwa [decide_eq_true rfl] at this
  have hss := str_eq s
  have HG := Lib.hid hG
  have hl' : (s.size : Int) ≤ 1000 := by omega
  clear hG hl h1 h2 h3 h4 h5
  cases B
  all_goals
    go_enter Tryz.func4, Tryz.ntmps4
    go_wp2_with (first | ((go_at_call 11); (with_reducible refine (HA.out _ (HG.out.alloc _)).mono ?_); rintro e w1 ⟨rfl, hbw1⟩; have HG1 := Lib.hid ((HG.out.alloc (.cells #[.int .i64 k, .string s] 25)).below hbw1); have HI1 := Lib.hid (Blk.call (Blk.new w 25 #[.int .i64 k, .string s]) hbw1); have q1 := HI1.out.q; have l1 := HI1.out.lt) | ((go_at_call 16); (with_reducible refine (H1.out _ HG1.out).mono ?_); rintro e w2 ⟨A2, n2, k2', rfl, hv2, hbw2⟩; have HV2 := Lib.hid hv2; have HG2 := Lib.hid (HG1.out.below hbw2); have HI2 := Lib.hid (Blk.call HI1.out hbw2); have q2 := HI2.out.q; have l2 := HI2.out.lt; clear hv2) | ((go_at_call 18); (with_reducible refine (H2.out w2).mono ?_); rintro e w3 ⟨A3, n3, k3, rfl, hv3, hbw3⟩; have HV3 := Lib.hid hv3; have HV23 := Lib.hid (HV2.out.below hbw3); have HG3 := Lib.hid (HG2.out.below hbw3); have HI3 := Lib.hid (Blk.call HI2.out hbw3); clear hv3) | ((go_at_call 17); (with_reducible refine (HB.out w3 _ _ HV23.out HV3.out).mono ?_); rintro e w4 ⟨rfl, hbw4⟩; have HV4 := Lib.hid (HV23.out.below hbw4); have HG4 := Lib.hid (HG3.out.below hbw4); have HI4 := Lib.hid (Blk.call HI3.out hbw4)) | ((go_at_call 12); (with_reducible refine (H3.out _ _ HG4.out HV4.out).mono ?_); rintro e w5 ⟨rfl, hbw5⟩; have HV5 := Lib.hid ((HV4.out.below hbw5).alloc (.cells #[.int .i64 k, .string s] 25)); have HG5 := Lib.hid ((HG4.out.below hbw5).alloc (.cells #[.int .i64 k, .string s] 25)); have HI5 := Lib.hid ((Blk.call HI4.out hbw5).alloc (.cells #[.int .i64 k, .string s] 25)); have HT5 := Lib.hid (Blk.new w5 25 #[.int .i64 k, .string s])) | ((go_at_call 14); (with_reducible refine (H4.out _ _ HG5.out HV5.out).mono ?_); rintro e w6 ⟨rfl, hbw6⟩; have HI6 := Lib.hid (Blk.call HI5.out hbw6); have HT6 := Lib.hid (Blk.call HT5.out hbw6); have q6 := HI6.out.q; have l6 := HI6.out.lt; have t6 := HT6.out.q; have m6 := HT6.out.lt) | ((go_at_call 19); (with_reducible refine (H5.out _).mono ?_); rintro e w7 ⟨rfl, hbw7⟩))
    go_ret
    have s1 := hbw1.size; have s2' := hbw2.size; have s3 := hbw3.size; have s4 := hbw4.size; have s5 := hbw5.size; have s6 := hbw6.size; have s7 := hbw7.size
    simp at s1 s6 s7
    have c1 : Below w.heap.size w w1 := ((Below.refl _ w).alloc (Nat.le_refl _) _).trans (hbw1.mono (by simp))
    have c5 : Below w.heap.size w w5 := (((c1.trans (hbw2.mono (by omega))).trans (hbw3.mono (by omega))).trans (hbw4.mono (by omega))).trans (hbw5.mono (by omega))
    have c6 : Below w.heap.size w w6 := (c5.alloc (by omega) _).trans (hbw6.mono (by simp; omega))
    have c7 : Below w.heap.size w w7 := (c6.alloc (by omega) _).trans (hbw7.mono (by simp; omega))
    exact ⟨by (first | rfl | simp [*]), c7⟩
theorem walk (k : Int) (s : ByteArray) (w : World) (hG : Glo w) : Calls Tryz.prog 4 #[.agg #[.int .i64 k, .string s]] w (RetB (.bool true) w) := by
  by_cases hl : s.size ≤ 1000
  · cases he : strE k s.data.toList with
    | none => exact no_ k s w hG hl he
    | some b =>
      have hbl : b.length ≤ 5000 := by
        have h := he
        unfold strE at h
        cases hc : encT k s.data.toList with
        | none => rw [hc] at h; cases h
        | some c =>
          rw [hc] at h
          simp only [Option.map_some, Option.some.injEq] at h
          have h1 := encT_len hc
          have h2 := encO_len 0 k false c
          have h3 : s.data.toList.length = s.size := rfl
          have h4 : (lenOct c.length).length ≤ 9 := (lenOct_len c.length).2
          rw [h] at h2
          omega
      have hs : strD b = some (k, s.data.toList) := strD_enc he (by omega)
      have hbs : bStr s.data.toList = s := by rw [bStr_eq]
      have h1 : ∀ W, Glo W → Calls Tryz.prog 16 #[.agg #[.int .i64 k, .string s]] W (RetFY b W) := fun W g => (fromString k s W (kindOk_all k) g (by omega)).mono fun e w' hh => by
        rw [he] at hh
        obtain ⟨v, h1, ho, hb⟩ := hh.yes
        obtain ⟨A, kk, rfl⟩ := isB_slice ho.isB
        exact ⟨A, _, kk, h1, ho.isB, hb⟩
      have h2 : ∀ W, Calls Tryz.prog 18 #[.agg #[.int .i64 k, .string s]] W (RetFY b W) := fun W => (rFromS k s W (by omega)).mono fun e w' hh => by
        rw [he] at hh
        obtain ⟨A, n, kk, ec, h1, hb, ⟨h, _⟩ | ⟨x, hx, rfl, hv⟩⟩ := hh
        · cases h
        · injection hx with hx
          subst hx
          exact ⟨A, n, kk, h1, hv, hb⟩
      have h3 : ∀ v W, Glo W → IsB W v b → Calls Tryz.prog 12 #[v] W (RetB (.tuple #[.agg #[.int .i64 k, .string s], .bool true]) W) := fun v W g h => by
        have := string_any v b W g h (by omega) (fun x _ => kindOk_all x.num)
        rw [hs] at this
        have h2 : Calls Tryz.prog 12 #[v] W (RetB (.tuple #[.agg #[.int .i64 k, .string (bStr s.data.toList)], .bool true]) W) := this
        rwa [hbs] at h2
      have h4 := fun v W (g : Glo W) (h : IsB W v b) => directory_any v b W g h (by omega) (fun x _ => kindOk_all x.num)
      have h5 := fun W => rFilled k s W (by omega)
      rw [dirD_filled, hs] at h4
      simp only at h4
      cases hf : filledS k s.data.toList with
      | true =>
        rw [hf] at h5
        rw [hf, if_pos rfl] at h4
        exact yes_ k s w b k (bStr s.data.toList) true hG hl h1 h2 h3 h4 h5
      | false =>
        rw [hf] at h5
        rw [hf, if_neg (by simp)] at h4
        exact yes_ k s w b 0 ⟨#[]⟩ false hG hl h1 h2 h3 h4 h5
  · exact long_ k s w hG hl

section
variable {H : Type} {enc : TypeId × Value → H} {W : World} {base : Nat} {held : Bool} {d : DataW H} {p : List MemPlace} {v : Value}
set_option maxRecDepth 100000 in
theorem open_text (hval : Value.okWide Tryz.prog W .any base 25 v) (h : DataW.Trod enc Tryz.prog W 0 (fun _ => true) held 25 v d p) : ∃ k s, v = .agg #[.int .i64 k, .string s] := by
  obtain ⟨⟨cl⟩, rfl, hsz⟩ := okWide_struct Tryz.underlying25 hval
  obtain ⟨fuel, hf⟩ := h
  obtain ⟨y0, y1, n, _, hcl, h0, h1⟩ := trod_struct2 Tryz.underlying25 hf
  have hC : Tryz.prog.cellsOf 25 = 2 := by kernel_rfl
  have c0 : Tryz.prog.cellsOf 3 = 1 := by kernel_rfl
  have c1 : Tryz.prog.cellsOf 9 = 1 := by kernel_rfl
  match cl, hsz.trans hC with
  | [a, b], _ =>
    simp only [c0, c1, Value.cells] at h0 h1
    obtain ⟨s, hs, _, _⟩ := DataW.trod_string (by kernel_rfl : Tryz.prog.underlying 9 = some .string) h1
    have e1 : b = .string s := by simpa using hs
    subst e1
    obtain ⟨z, hz, _⟩ := DataW.trod_int (by kernel_rfl : Tryz.prog.underlying 3 = some (.int .i64)) h0
    have e0 : a = .int .i64 z := by simpa using hz
    subst e0
    exact ⟨z, s, rfl⟩
end

theorem witness_row (os : Os) {H : Type} (enc : TypeId × Value → H) :
    (OpenSpec.ofChange Rows.attributeElementsSpec).preRow enc Tryz.prog Tryz.f4 Rows.attributeElementsRow.domain false Rows.attributeElementsRow.laid ((laidW os).forCall (fun _ _ => 0) ⟨#[], #[.agg #[.int .i64 0, .string ⟨#[]⟩]], []⟩).memory #[.agg #[.int .i64 0, .string ⟨#[]⟩]] := by
  have hw : (DataW.whole enc Tryz.prog ((laidW os).forCall (fun _ _ => 0) ⟨#[], #[.agg #[.int .i64 0, .string ⟨#[]⟩]], []⟩).memory Tryz.f4.params.toList (OpenSpec.ofChange Rows.attributeElementsSpec).vars false #[(.agg #[.int .i64 0, .string ⟨#[]⟩] : Value)].toList 8).map (fun x => (x.1, x.2.1)) =
      some ([.agg [.lit (.int .i64 0), .lit (.string [])]], []) := by kernel_rfl
  obtain ⟨⟨x1, x2, x3⟩, hx, hx1⟩ := Option.map_eq_some_iff.1 hw
  simp only [Prod.mk.injEq] at hx1
  obtain ⟨rfl, rfl⟩ := hx1
  exact OpenSpec.preRow_of_cond 8 hx (by kernel_rfl) (fun k hk => by cases hk) (by kernel_rfl) (laidW_met os _)

set_option maxRecDepth 100000 in
set_option maxHeartbeats 2000000 in
theorem lifted (os : Os) (started : os.Started) (H : Type) (enc : TypeId × Value → H) (F : Stop.Interp) :
    ReturnsInHanded {} Tryz.checked os 4 .any ((OpenSpec.ofChange Rows.attributeElementsSpec).preRow enc Tryz.prog Tryz.f4 Rows.attributeElementsRow.domain false Rows.attributeElementsRow.laid) (((OpenSpec.ofChange Rows.attributeElementsSpec).at F).post enc Tryz.prog Tryz.f4 false true false false) := by
  refine returnsInHanded_of_row (C := Tryz.checked) (s := OpenSpec.ofChange Rows.attributeElementsSpec) lw_own started (by kernel_rfl) Tryz.func4
    (witness_laid #[.agg #[.int .i64 0, .string ⟨#[]⟩]] (by kernel_rfl) (witness_row os enc)) ?_
  intro W base args ds gs before hval0 hW hcnd _ hz0 hL hsh _
  have hG : Glo W := glo_of W hL hsh
  have hval : ∀ (j : Nat) t v, Tryz.f4.params[j]? = some t → args[j]? = some v → Value.okWide Tryz.prog W .any base t v := hval0
  have hW' := hW
  obtain ⟨p, q, hA0, hV, rfl, hfz, hnd⟩ := hW
  have hA : DataW.TrodAll enc Tryz.prog W 0 (fun _ => true) true Tryz.f4.params.toList args.toList ds p := hA0
  rw [Tryz.params4] at hA hval
  obtain ⟨v0, vs0, d0, ds0, p0, q0, hargs, rfl, rfl, h0, r0⟩ := trodAll_cons hA
  obtain ⟨rfl, rfl, rfl⟩ := trodAll_nil r0
  obtain rfl : args = #[v0] := by cases args; simp_all
  obtain ⟨rfl, rfl⟩ := trodVars_none hV
  have lt0 : ∀ x ∈ p0, x.block < W.heap.size := by obtain ⟨m, hm⟩ := h0; exact DataW.trod_lt m _ _ _ hm
  obtain ⟨k0, s0, rfl⟩ := open_text (hval 0 25 v0 rfl rfl) h0
  clear hA0 hval0
  refine (walk k0 s0 W hG).mono fun e W' ⟨he, bel⟩ => ?_
  subst he
  exact ⟨_, rfl, _, _, _, [], _, [], hW', trodAll_mk1 (shut_bool (by kernel_rfl : Tryz.prog.underlying 4 = some .bool) _), (trodAll_cons_mk (Below.trod lw_laidOut (by kernel_rfl) (of_decide_eq_true (by kernel_rfl)) h0 bel lt0) trodAll_mk0), rfl, bel.frame _, fun h => by cases h⟩

theorem holds : Rows.AttributeElementsSaid :=
  OpenClaim.holds_of_cond 4 Tryz.f4 rfl rfl rfl rfl rfl rfl rfl ⟨rfl, rfl, rfl, rfl, rfl⟩ rfl rfl rfl rfl rfl (by kernel_rfl) Tryz.func4 (by kernel_rfl)
    (of_decide_eq_true (by kernel_rfl)) (by unfold Func.isWrapper; first | (rw [if_pos (by decide +kernel)]; kernel_rfl) | (rw [if_neg (by decide +kernel)]; exact ⟨rfl, rfl⟩))
    (fun os started H enc _ F0 => by rw [OpenClaim.pre_eq_preRow]; exact lifted os started H enc F0)

theorem proved : Rows.AttributeElementsCardSaid :=
  Claim7.holds_tied_plain_at .later [] [.data, .data, .data, .data, .sentinel, .sentinel, .pinned] true (true, "a669af08838cfad0aa38966214e8cb1e037c880dbfa1422bd235b91a679aa7b7") true holds (fun _ h => by cases h) (by kernel_rfl) (fun _ h => by cases h) attributeElements_row_tie rfl ⟨rfl, rfl⟩ (by kernel_rfl) rfl
    (fun f fn hf hfn => by
      obtain rfl : f = 4 := Option.some.inj ((show Tryz.prog.funcNamed "cretula/cretulalaw11.AttributeElements" = some 4 by kernel_rfl).symm.trans hf) |>.symm
      obtain rfl : fn = Tryz.f4 := (Option.some.inj (Tryz.func4.symm.trans hfn)).symm
      exact ⟨by kernel_rfl, fun j t ht => by
        rw [Tryz.params4] at ht
        have hm : t ∈ [25] := by simpa using Array.mem_of_getElem? ht
        have hall : ([25].all fun u => !Tryz.prog.wantsStandIn u) = true := by kernel_rfl
        exact (show Tryz.prog.wantsStandIn t = false by simpa using List.all_eq_true.1 hall t hm)⟩)
    (by kernel_rfl)
#print axioms proved
end Go.Proofs.YtejmkefdcjachaaGreatDoor.ElemsDone
