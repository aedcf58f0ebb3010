/- AttributeLabels: any string has the label and the object identifier of the reference implementation; labels lead to their object identifiers and back. No condition beyond the row's own. -/
import Derived.Test.YtejmkefdcjachaaGreatDoorJ39
import Derived.Test.YtejmkefdcjachaaGreatDoorJ40
import Derived.Test.YtejmkefdcjachaaGreatDoorTie
import Derived.Test.YtejmkefdcjachaaGreatDoorCards
import Derived.SevenTiedAt
import Derived.JoinedCond
set_option linter.unusedSimpArgs false
set_option linter.unusedVariables false
namespace Go.Proofs.YtejmkefdcjachaaGreatDoor.LabelsDone
open Go.RowKit Go.Cr Go.ChangeShapes Go.WideShapes Go.ChangeAt Go.Lib
open Go.ChangeMaps (open_string shut_string)

set_option maxRecDepth 100000 in
set_option maxHeartbeats 4000000 in
theorem walk (s : ByteArray) (w : World) (hG : Glo w) : Calls Tryz.prog 5 #[.string s] w (RetB (.bool true) w) := by
  have HA : Hid (∀ W, Glo W → Calls Tryz.prog 11 #[] W (RetB (.bool true) W)) := awake_any
  have HL0 : Hid (∀ x W, Calls Tryz.prog 20 #[.string x] W (RetB (.string (labelOf x)) W)) := labelAt
  have HF0 : Hid (∀ x W, Calls Tryz.prog 21 #[.string x] W (RetB (.string (findOf x)) W)) := findLab
  have HRL : Hid (∀ W, Calls Tryz.prog 22 #[.string s] W (RetB (.string (labelOf s)) W)) := rLabel s
  have HRF : Hid (∀ W, Calls Tryz.prog 23 #[.string s] W (RetB (.string (findOf s)) W)) := rFind s
  have HG := Lib.hid hG
  clear hG
  by_cases hs : (s.size : Int) ≤ 200
  · have HL : Hid (∀ W, Calls Tryz.prog 20 #[.string s] W (RetB (.string (labelOf s)) W)) := fun W => HL0.out s W
    have HF : Hid (∀ W, Calls Tryz.prog 21 #[.string s] W (RetB (.string (findOf s)) W)) := fun W => HF0.out s W
    have hss := str_eq s
    have hab : Hid ((labelOf s ≠ ⟨#[]⟩ → findOf (labelOf s) = s) ∧ (findOf s ≠ ⟨#[]⟩ → labelOf (findOf s) = s)) := ⟨find_label, label_find⟩
    have HFa0 : Hid (labelOf s ≠ ⟨#[]⟩ → ∀ W, Calls Tryz.prog 21 #[.string (labelOf s)] W (RetB (.string s) W)) := fun h W => by have := HF0.out (labelOf s) W; rw [hab.out.1 h] at this; exact this
    have HLb0 : Hid (findOf s ≠ ⟨#[]⟩ → ∀ W, Calls Tryz.prog 20 #[.string (findOf s)] W (RetB (.string s) W)) := fun h W => by have := HL0.out (findOf s) W; rw [hab.out.2 h] at this; exact this
    clear hab HL0 HF0
    generalize labelOf s = a at *
    generalize findOf s = b at *
    have haa := str_eq a
    have hbb := str_eq b
    by_cases ha : a = ⟨#[]⟩
    · have ha1 : a.toList = [] := by rw [ha, ByteArray.toList_eq]
      by_cases hb : b = ⟨#[]⟩
      · have hb1 : b.toList = [] := by rw [hb, ByteArray.toList_eq]
        clear ha hb
        go_enter Tryz.func5, Tryz.ntmps5
        go_wp2_with (first | ((go_at_call 11); (with_reducible refine (HA.out _ HG.out).mono ?_); rintro e w1 ⟨rfl, hbw1⟩) | ((go_at_call 20); (with_reducible refine (HL.out w1).mono ?_); rintro e w2 ⟨rfl, hbw2⟩) | ((go_at_call 21); (with_reducible refine (HF.out w2).mono ?_); rintro e w3 ⟨rfl, hbw3⟩) | ((go_at_call 22); (with_reducible refine (HRL.out _).mono ?_); rintro e w4 ⟨rfl, hbw4⟩) | ((go_at_call 23); (with_reducible refine (HRF.out _).mono ?_); rintro e w5 ⟨rfl, hbw5⟩))
        go_ret
        exact ⟨by (first | rfl | simp [*]), (hbw1.trans ((hbw2.trans ((hbw3.trans ((hbw4.trans (hbw5.mono hbw4.size)).mono hbw3.size)).mono hbw2.size)).mono hbw1.size))⟩
      · have HLb := Lib.hid (HLb0.out hb)
        have hb1 : ¬ (b.toList = []) := fun h => hb (by rw [ByteArray.toList_eq] at h; obtain ⟨x⟩ := b; simp at h; simp [h])
        have hb2 : b.toList.isEmpty = false := by simpa using hb1
        clear ha hb
        go_enter Tryz.func5, Tryz.ntmps5
        go_wp2_with (first | ((go_at_call 11); (with_reducible refine (HA.out _ HG.out).mono ?_); rintro e w1 ⟨rfl, hbw1⟩) | ((go_at_call 20); (with_reducible refine (HL.out w1).mono ?_); rintro e w2 ⟨rfl, hbw2⟩) | ((go_at_call 21); (with_reducible refine (HF.out w2).mono ?_); rintro e w3 ⟨rfl, hbw3⟩) | ((go_at_call 22); (with_reducible refine (HRL.out _).mono ?_); rintro e w4 ⟨rfl, hbw4⟩) | ((go_at_call 23); (with_reducible refine (HRF.out _).mono ?_); rintro e w5 ⟨rfl, hbw5⟩) | ((go_at_call 20); (with_reducible refine (HLb.out _).mono ?_); rintro e w7 ⟨rfl, hbw7⟩))
        go_ret
        exact ⟨by (first | rfl | simp [*]), (hbw1.trans ((hbw2.trans ((hbw3.trans ((hbw4.trans ((hbw5.trans (hbw7.mono hbw5.size)).mono hbw4.size)).mono hbw3.size)).mono hbw2.size)).mono hbw1.size))⟩
    · have HFa := Lib.hid (HFa0.out ha)
      have ha1 : ¬ (a.toList = []) := fun h => ha (by rw [ByteArray.toList_eq] at h; obtain ⟨x⟩ := a; simp at h; simp [h])
      have ha2 : a.toList.isEmpty = false := by simpa using ha1
      by_cases hb : b = ⟨#[]⟩
      · have hb1 : b.toList = [] := by rw [hb, ByteArray.toList_eq]
        clear ha hb
        go_enter Tryz.func5, Tryz.ntmps5
        go_wp2_with (first | ((go_at_call 11); (with_reducible refine (HA.out _ HG.out).mono ?_); rintro e w1 ⟨rfl, hbw1⟩) | ((go_at_call 20); (with_reducible refine (HL.out w1).mono ?_); rintro e w2 ⟨rfl, hbw2⟩) | ((go_at_call 21); (with_reducible refine (HF.out w2).mono ?_); rintro e w3 ⟨rfl, hbw3⟩) | ((go_at_call 22); (with_reducible refine (HRL.out _).mono ?_); rintro e w4 ⟨rfl, hbw4⟩) | ((go_at_call 23); (with_reducible refine (HRF.out _).mono ?_); rintro e w5 ⟨rfl, hbw5⟩) | ((go_at_call 21); (with_reducible refine (HFa.out _).mono ?_); rintro e w6 ⟨rfl, hbw6⟩))
        go_ret
        exact ⟨by (first | rfl | simp [*]), (hbw1.trans ((hbw2.trans ((hbw3.trans ((hbw4.trans ((hbw5.trans (hbw6.mono hbw5.size)).mono hbw4.size)).mono hbw3.size)).mono hbw2.size)).mono hbw1.size))⟩
      · have HLb := Lib.hid (HLb0.out hb)
        have hb1 : ¬ (b.toList = []) := fun h => hb (by rw [ByteArray.toList_eq] at h; obtain ⟨x⟩ := b; simp at h; simp [h])
        have hb2 : b.toList.isEmpty = false := by simpa using hb1
        clear ha hb
        go_enter Tryz.func5, Tryz.ntmps5
        go_wp2_with (first | ((go_at_call 11); (with_reducible refine (HA.out _ HG.out).mono ?_); rintro e w1 ⟨rfl, hbw1⟩) | ((go_at_call 20); (with_reducible refine (HL.out w1).mono ?_); rintro e w2 ⟨rfl, hbw2⟩) | ((go_at_call 21); (with_reducible refine (HF.out w2).mono ?_); rintro e w3 ⟨rfl, hbw3⟩) | ((go_at_call 22); (with_reducible refine (HRL.out _).mono ?_); rintro e w4 ⟨rfl, hbw4⟩) | ((go_at_call 23); (with_reducible refine (HRF.out _).mono ?_); rintro e w5 ⟨rfl, hbw5⟩) | ((go_at_call 21); (with_reducible refine (HFa.out _).mono ?_); rintro e w6 ⟨rfl, hbw6⟩) | ((go_at_call 20); (with_reducible refine (HLb.out _).mono ?_); rintro e w7 ⟨rfl, hbw7⟩))
        go_ret
        exact ⟨by (first | rfl | simp [*]), (hbw1.trans ((hbw2.trans ((hbw3.trans ((hbw4.trans ((hbw5.trans ((hbw6.trans (hbw7.mono hbw6.size)).mono hbw5.size)).mono hbw4.size)).mono hbw3.size)).mono hbw2.size)).mono hbw1.size))⟩
  · have hs' : (200 : Int) < s.size := by omega
    go_enter Tryz.func5, Tryz.ntmps5
    go_wp2_with (first | ((go_at_call 11); (with_reducible refine (HA.out _ HG.out).mono ?_); rintro e w1 ⟨rfl, hbw1⟩) | ((go_at_call 11); (with_reducible refine (HA.out _ (HG.out.below hbw1)).mono ?_); rintro e w2 ⟨rfl, hbw2⟩))
    go_ret
    exact ⟨rfl, hbw1.trans (hbw2.mono hbw1.size)⟩

theorem witness_row (os : Os) {H : Type} (enc : TypeId × Value → H) :
    (OpenSpec.ofChange Rows.attributeLabelsSpec).preRow enc Tryz.prog Tryz.f5 Rows.attributeLabelsRow.domain false Rows.attributeLabelsRow.laid ((laidW os).forCall (fun _ _ => 0) ⟨#[], #[.string ⟨#[]⟩], []⟩).memory #[.string ⟨#[]⟩] := by
  have hw : (DataW.whole enc Tryz.prog ((laidW os).forCall (fun _ _ => 0) ⟨#[], #[.string ⟨#[]⟩], []⟩).memory Tryz.f5.params.toList (OpenSpec.ofChange Rows.attributeLabelsSpec).vars false #[(.string ⟨#[]⟩ : Value)].toList 8).map (fun x => (x.1, x.2.1)) =
      some ([.lit (.string [])], []) := by kernel_rfl
  obtain ⟨⟨x1, x2, x3⟩, hx, hx1⟩ := Option.map_eq_some_iff.1 hw
  simp only [Prod.mk.injEq] at hx1
  obtain ⟨rfl, rfl⟩ := hx1
  exact OpenSpec.preRow_of_cond 8 hx (by kernel_rfl) (fun k hk => by cases hk) (by kernel_rfl) (laidW_met os _)

set_option maxRecDepth 100000 in
set_option maxHeartbeats 2000000 in
theorem lifted (os : Os) (started : os.Started) (H : Type) (enc : TypeId × Value → H) (F : Stop.Interp) :
    ReturnsInHanded {} Tryz.checked os 5 .any ((OpenSpec.ofChange Rows.attributeLabelsSpec).preRow enc Tryz.prog Tryz.f5 Rows.attributeLabelsRow.domain false Rows.attributeLabelsRow.laid) (((OpenSpec.ofChange Rows.attributeLabelsSpec).at F).post enc Tryz.prog Tryz.f5 false true false false) := by
  refine returnsInHanded_of_row (C := Tryz.checked) (s := OpenSpec.ofChange Rows.attributeLabelsSpec) lw_own started (by kernel_rfl) Tryz.func5
    (witness_laid #[.string ⟨#[]⟩] (by kernel_rfl) (witness_row os enc)) ?_
  intro W base args ds gs before hval0 hW hcnd _ hz0 hL hsh _
  have hG : Glo W := glo_of W hL hsh
  have hval : ∀ (j : Nat) t v, Tryz.f5.params[j]? = some t → args[j]? = some v → Value.okWide Tryz.prog W .any base t v := hval0
  have hW' := hW
  obtain ⟨p, q, hA0, hV, rfl, hfz, hnd⟩ := hW
  have hA : DataW.TrodAll enc Tryz.prog W 0 (fun _ => true) true Tryz.f5.params.toList args.toList ds p := hA0
  rw [Tryz.params5] at hA hval
  obtain ⟨v0, vs0, d0, ds0, p0, q0, hargs, rfl, rfl, h0, r0⟩ := trodAll_cons hA
  obtain ⟨rfl, rfl, rfl⟩ := trodAll_nil r0
  obtain rfl : args = #[v0] := by cases args; simp_all
  obtain ⟨rfl, rfl⟩ := trodVars_none hV
  obtain ⟨a0, rfl, rfl, rfl, w0⟩ := open_string (by kernel_rfl : Tryz.prog.underlying 9 = some .string) (hval 0 9 v0 rfl rfl) h0
  clear hA0 hval0
  refine (walk a0 W hG).mono fun e W' ⟨he, bel⟩ => ?_
  subst he
  exact ⟨_, rfl, _, _, _, [], _, [], hW', trodAll_mk1 (shut_bool (by kernel_rfl : Tryz.prog.underlying 4 = some .bool) _), (trodAll_cons_mk (shut_string (by kernel_rfl : Tryz.prog.underlying 9 = some .string) w0) trodAll_mk0), rfl, bel.frame _, fun h => by cases h⟩

theorem holds : Rows.AttributeLabelsSaid :=
  OpenClaim.holds_of_cond 5 Tryz.f5 rfl rfl rfl rfl rfl rfl rfl ⟨rfl, rfl, rfl, rfl, rfl⟩ rfl rfl rfl rfl rfl (by kernel_rfl) Tryz.func5 (by kernel_rfl)
    (of_decide_eq_true (by kernel_rfl)) (by unfold Func.isWrapper; first | (rw [if_pos (by decide +kernel)]; kernel_rfl) | (rw [if_neg (by decide +kernel)]; exact ⟨rfl, rfl⟩))
    (fun os started H enc _ F0 => by rw [OpenClaim.pre_eq_preRow]; exact lifted os started H enc F0)

theorem proved : Rows.AttributeLabelsCardSaid :=
  Claim7.holds_tied_plain_at .later [] [.data, .data, .data, .data, .sentinel, .sentinel, .pinned] true (true, "a669af08838cfad0aa38966214e8cb1e037c880dbfa1422bd235b91a679aa7b7") true holds (fun _ h => by cases h) (by kernel_rfl) (fun _ h => by cases h) attributeLabels_row_tie rfl ⟨rfl, rfl⟩ (by kernel_rfl) rfl
    (fun f fn hf hfn => by
      obtain rfl : f = 5 := Option.some.inj ((show Tryz.prog.funcNamed "cretula/cretulalaw11.AttributeLabels" = some 5 by kernel_rfl).symm.trans hf) |>.symm
      obtain rfl : fn = Tryz.f5 := (Option.some.inj (Tryz.func5.symm.trans hfn)).symm
      exact ⟨by kernel_rfl, fun j t ht => by
        rw [Tryz.params5] at ht
        have hm : t ∈ [9] := by simpa using Array.mem_of_getElem? ht
        have hall : ([9].all fun u => !Tryz.prog.wantsStandIn u) = true := by kernel_rfl
        exact (show Tryz.prog.wantsStandIn t = false by simpa using List.all_eq_true.1 hall t hm)⟩)
    (by kernel_rfl)
#print axioms proved
end Go.Proofs.YtejmkefdcjachaaGreatDoor.LabelsDone
