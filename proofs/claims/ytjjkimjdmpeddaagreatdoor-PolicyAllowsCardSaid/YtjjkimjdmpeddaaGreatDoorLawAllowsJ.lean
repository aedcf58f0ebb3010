/- PolicyAllows: Allows answers as the reference's does. -/
import Derived.Test.YtjjkimjdmpeddaaGreatDoorJ20
import Derived.Test.YtjjkimjdmpeddaaGreatDoorJ41
import Derived.Test.YtjjkimjdmpeddaaGreatDoorJ42
import Derived.Test.YtjjkimjdmpeddaaGreatDoorTie
import Derived.Test.YtjjkimjdmpeddaaGreatDoorCards
import Derived.SevenTiedAt
import Derived.JoinedCond
import Derived.ChangeMaps5
import Derived.Test.YtjjkimjdmpeddaaGreatDoorJ19
set_option linter.unusedSimpArgs false
set_option linter.unusedVariables false
namespace Go.Proofs.YtjjkimjdmpeddaaGreatDoor.AllowsDone
open Go.RowKit Go.Cr Go.ChangeShapes Go.WideShapes Go.ChangeAt Go.Lib
open Go.ChangeMaps (open_string shut_string)
set_option maxRecDepth 100000 in
set_option maxHeartbeats 4000000 in
theorem walk (v : Value) (ps : List Pol) (id : ByteArray) (w : World) (hv : IsPs w v ps) (hM : BdP 140737488351232 ps) (hG : Glo w) : Calls Tryz.prog 3 #[v, .string id] w (RetB (.bool true) w) := by
  have HA : Hid (∀ W, Glo W → Calls Tryz.prog 14 #[] W (RetB (.bool true) W)) := awake17
  have HF : Hid (∀ W, IsPs W v ps → Calls Tryz.prog 15 #[v] W (RetFw ps W)) := fun W h => rFew v ps W h hM
  have HP : Hid (∀ W, Glo W → IsPs W v ps → SzP ps → Calls Tryz.prog 16 #[v, .string id] W (RetB (.bool (okP ps && ps.any (hitP id))) W)) := fun W g h z => polAllows v ps id W g h z
  have HR : Hid (∀ W, IsPs W v ps → SzP ps → Calls Tryz.prog 17 #[v, .string id] W (RetB (.bool (okP ps && ps.any (hitP id))) W)) := fun W h z => rAllows v ps id W h z
  generalize (okP ps && ps.any (hitP id)) = B at *
  have HV := Lib.hid hv
  have HG := Lib.hid hG
  clear hv hM hG
  go_enter Tryz.func3, Tryz.ntmps3
  go_wp2_with (first | ((go_at_call 14); (with_reducible refine (HA.out _ HG.out).mono ?_); rintro e w1 ⟨rfl, hbw1⟩; have HG1 := Lib.hid (HG.out.below hbw1); have HV1 := Lib.hid (HV.out.below hbw1)) | ((go_at_call 15); (with_reducible refine (HF.out _ HV1.out).mono ?_); rintro e w2 ⟨b, rfl, hb, hbw2⟩; have HG2 := Lib.hid (HG1.out.below hbw2); have HV2 := Lib.hid (HV1.out.below hbw2); have HB2 := Lib.hid hb; have HW2 := Lib.hid (hbw1.trans (hbw2.mono hbw1.size)); clear hb hbw1 hbw2; cases b) | ((go_at_call 16); (with_reducible refine (HP.out _ HG2.out HV2.out (HB2.out (by trivial))).mono ?_); rintro e w3 ⟨rfl, hbw3⟩; have HV3 := Lib.hid (HV2.out.below hbw3)) | ((go_at_call 17); (with_reducible refine (HR.out _ HV3.out (HB2.out (by trivial))).mono ?_); rintro e w4 ⟨rfl, hbw4⟩) | ((go_at_call 14); (with_reducible refine (HA.out _ HG2.out).mono ?_); rintro e w5 ⟨rfl, hbw5⟩))
  all_goals try (go_wp2_with (first | ((go_at_call 14); (with_reducible refine (HA.out _ HG.out).mono ?_); rintro e w1 ⟨rfl, hbw1⟩; have HG1 := Lib.hid (HG.out.below hbw1); have HV1 := Lib.hid (HV.out.below hbw1)) | ((go_at_call 15); (with_reducible refine (HF.out _ HV1.out).mono ?_); rintro e w2 ⟨b, rfl, hb, hbw2⟩; have HG2 := Lib.hid (HG1.out.below hbw2); have HV2 := Lib.hid (HV1.out.below hbw2); have HB2 := Lib.hid hb; have HW2 := Lib.hid (hbw1.trans (hbw2.mono hbw1.size)); clear hb hbw1 hbw2; cases b) | ((go_at_call 16); (with_reducible refine (HP.out _ HG2.out HV2.out (HB2.out (by trivial))).mono ?_); rintro e w3 ⟨rfl, hbw3⟩; have HV3 := Lib.hid (HV2.out.below hbw3)) | ((go_at_call 17); (with_reducible refine (HR.out _ HV3.out (HB2.out (by trivial))).mono ?_); rintro e w4 ⟨rfl, hbw4⟩) | ((go_at_call 14); (with_reducible refine (HA.out _ HG2.out).mono ?_); rintro e w5 ⟨rfl, hbw5⟩)))
  all_goals go_ret
  all_goals first
    | exact ⟨rfl, HW2.out.trans (hbw5.mono HW2.out.size)⟩
    | (refine ⟨by cases B <;> rfl, ?_⟩
       have h3 := HW2.out.trans (hbw3.mono HW2.out.size)
       exact h3.trans (hbw4.mono h3.size))
theorem witness_row (os : Os) {H : Type} (enc : TypeId × Value → H) :
    (OpenSpec.ofChange Rows.policyAllowsSpec).preRow enc Tryz.prog Tryz.f3 Rows.policyAllowsRow.domain false Rows.policyAllowsRow.laid ((laidW os).forCall (fun _ _ => 0) ⟨#[], #[.slice none 0 0, .string ⟨#[]⟩], []⟩).memory #[.slice none 0 0, .string ⟨#[]⟩] := by
  have hw : (DataW.whole enc Tryz.prog ((laidW os).forCall (fun _ _ => 0) ⟨#[], #[.slice none 0 0, .string ⟨#[]⟩], []⟩).memory Tryz.f3.params.toList (OpenSpec.ofChange Rows.policyAllowsSpec).vars false #[(.slice none 0 0 : Value), (.string ⟨#[]⟩ : Value)].toList 8).map (fun x => (x.1, x.2.1)) =
      some ([.nil, .lit (.string [])], []) := by kernel_rfl
  obtain ⟨⟨x1, x2, x3⟩, hx, hx1⟩ := Option.map_eq_some_iff.1 hw
  simp only [Prod.mk.injEq] at hx1
  obtain ⟨rfl, rfl⟩ := hx1
  exact OpenSpec.preRow_of_cond 8 hx (by kernel_rfl) (fun k hk => by cases hk) (by kernel_rfl) (laidW_met os _)

set_option maxRecDepth 100000 in
set_option maxHeartbeats 2000000 in
theorem lifted (os : Os) (started : os.Started) (H : Type) (enc : TypeId × Value → H) (F : Stop.Interp) :
    ReturnsInHanded {} Tryz.checked os 3 .any ((OpenSpec.ofChange Rows.policyAllowsSpec).preRow enc Tryz.prog Tryz.f3 Rows.policyAllowsRow.domain false Rows.policyAllowsRow.laid) (((OpenSpec.ofChange Rows.policyAllowsSpec).at F).post enc Tryz.prog Tryz.f3 false true false false) := by
  refine returnsInHanded_of_row (C := Tryz.checked) (s := OpenSpec.ofChange Rows.policyAllowsSpec) lw_own started (by kernel_rfl) Tryz.func3
    (witness_laid #[.slice none 0 0, .string ⟨#[]⟩] (by kernel_rfl) (witness_row os enc)) ?_
  intro W base args ds gs before hval0 hW hcnd _ hz0 hL hsh _
  have hz : (DataW.weightsEach Tryz.prog (Tryz.f3.params.toList ++ (OpenSpec.ofChange Rows.policyAllowsSpec).bare.plain.varTypes Tryz.prog) (ds ++ gs)).all (· ≤ reachBytes) = true := hz0
  have hG : Glo W := glo_of W hL hsh
  have hval : ∀ (j : Nat) t v, Tryz.f3.params[j]? = some t → args[j]? = some v → Value.okWide Tryz.prog W .any base t v := hval0
  have hW' := hW
  obtain ⟨p, q, hA0, hV, rfl, hfz, hnd⟩ := hW
  have hA : DataW.TrodAll enc Tryz.prog W 0 (fun _ => true) true Tryz.f3.params.toList args.toList ds p := hA0
  rw [Tryz.params3] at hA hval hz
  obtain ⟨v0, vs0, d0, ds0, p0, q0, hargs, rfl, rfl, h0, r0⟩ := trodAll_cons hA
  obtain ⟨v1, vs1, d1, ds1, p1, q1, rfl, rfl, rfl, h1, r1⟩ := trodAll_cons r0
  obtain ⟨rfl, rfl, rfl⟩ := trodAll_nil r1
  obtain rfl : args = #[v0, v1] := by cases args; simp_all
  obtain ⟨rfl, rfl⟩ := trodVars_none hV
  have lt0 : ∀ x ∈ p0, x.block < W.heap.size := by obtain ⟨m, hm⟩ := h0; exact DataW.trod_lt m _ _ _ hm
  obtain ⟨l0, w0, s0⟩ := open_pols (hval 0 22 v0 rfl rfl) h0
  have z0 := s0 reachBytes (fun n hn => by have := List.all_eq_true.1 hz n (DataW.weights_mem_each (j := 0) rfl rfl n hn); simpa using this)
  obtain ⟨a1, rfl, rfl, rfl, w1⟩ := open_string (by kernel_rfl : Tryz.prog.underlying 9 = some .string) (hval 1 9 v1 rfl rfl) h1
  clear hA0 hval0
  refine (walk _ l0 a1 W w0 z0 hG).mono fun e W' ⟨he, bel⟩ => ?_
  subst he
  exact ⟨_, rfl, _, _, _, [], _, [], hW', trodAll_mk1 (shut_bool (by kernel_rfl : Tryz.prog.underlying 4 = some .bool) _), (trodAll_cons_mk (Below.trod lw_laidOut (by kernel_rfl) (of_decide_eq_true (by kernel_rfl)) h0 bel lt0) (trodAll_cons_mk (shut_string (by kernel_rfl : Tryz.prog.underlying 9 = some .string) w1) trodAll_mk0)), rfl, bel.frame _, fun h => by cases h⟩

set_option maxRecDepth 100000 in
set_option maxHeartbeats 8000000 in
theorem closed : joinedFacts Tryz.prog 3 Tryz.f3 (OpenSpec.ofChange Rows.policyAllowsSpec).bare Rows.policyAllowsRow = true := by
  unfold joinedFacts
  repeat' (with_reducible refine (Bool.and_eq_true _ _).mpr ⟨?_, ?_⟩)
  all_goals as_aux_lemma => kernel_rfl

theorem holds : Rows.PolicyAllowsSaid :=
  OpenClaim.holds_of_cond 3 Tryz.f3 rfl rfl rfl rfl rfl rfl rfl ⟨rfl, rfl, rfl, rfl, rfl⟩ rfl rfl rfl rfl rfl (by kernel_rfl) Tryz.func3 closed
    (of_decide_eq_true (by kernel_rfl)) (by unfold Func.isWrapper; first | (rw [if_pos (by decide +kernel)]; kernel_rfl) | (rw [if_neg (by decide +kernel)]; exact ⟨rfl, rfl⟩))
    (fun os started H enc _ F0 => by rw [OpenClaim.pre_eq_preRow]; exact lifted os started H enc F0)

theorem proved : Rows.PolicyAllowsCardSaid :=
  Claim7.holds_tied_plain_at .later [] [.data, .data, .data, .data, .sentinel, .sentinel, .pinned] true (true, "fa824e02935b73a10e1c667608401ca2600287d711bb144e4d8cfcd13add89cb") true holds (fun _ h => by cases h) (by kernel_rfl) (fun _ h => by cases h) policyAllows_row_tie rfl ⟨rfl, rfl⟩ (by kernel_rfl) rfl
    (fun f fn hf hfn => by
      obtain rfl : f = 3 := Option.some.inj ((show Tryz.prog.funcNamed "cretula/cretulalaw17.PolicyAllows" = some 3 by kernel_rfl).symm.trans hf) |>.symm
      obtain rfl : fn = Tryz.f3 := (Option.some.inj (Tryz.func3.symm.trans hfn)).symm
      exact ⟨by kernel_rfl, fun j t ht => by
        rw [Tryz.params3] at ht
        have hm : t ∈ [22, 9] := by simpa using Array.mem_of_getElem? ht
        have hall : ([22, 9].all fun u => !Tryz.prog.wantsStandIn u) = true := by kernel_rfl
        exact (show Tryz.prog.wantsStandIn t = false by simpa using List.all_eq_true.1 hall t hm)⟩)
    (by kernel_rfl)
#print axioms proved
end Go.Proofs.YtjjkimjdmpeddaaGreatDoor.AllowsDone
