/- The parts Text of one proof, one behind the other. -/
import Derived.Test.YtlmnmgokfnnbbaaGreatDoorL06
import Derived.Test.YtlmnmgokfnnbbaaGreatDoorL08

/- Walks over oid.Text and the reference's Text and base. -/
section
set_option linter.unusedSimpArgs false
set_option linter.unusedVariables false
namespace Go.Proofs.YtlmnmgokfnnbbaaGreatDoor
open Go.RowKit Go.Cr Go.Sort Go.Shelf
theorem infoStr : (Tryz.prog.info? 9).map (fun i => (i.zero, i.size, i.bytes)) = some (some (.string ByteArray.empty), 1, 16) := by kernel_rfl
theorem nDigits_le {n : Nat} (h : n ≤ 4294967295) : Lib.nDigits n ≤ 20 := by
  by_cases h0 : n = 0
  · subst h0; rw [Lib.nDigits_small (by omega)]; omega
  · have := Lib.numDigits_eq n (by omega) (by omega)
    split at this <;> omega
theorem join_le (c : Nat) (sep : List UInt8) (xs : List (List UInt8)) (h : ∀ x ∈ xs, x.length ≤ c) : (Lib.join xs sep).length ≤ (c + sep.length) * xs.length := by
  cases xs with
  | nil => simp [Lib.join_nil]
  | cons x r =>
    rw [Lib.join_length]
    have hl : ∀ ys : List (List UInt8), (∀ y ∈ ys, y.length ≤ c) → Lib.lens ys ≤ c * ys.length := by
      intro ys
      induction ys with
      | nil => intro _; simp [Lib.lens]
      | cons y t ih =>
        intro hy
        have h1 := hy y (by simp)
        have h2 := ih (fun z hz => hy z (by simp [hz]))
        simp only [Lib.lens, List.map_cons, List.sum_cons, List.length_cons] at h2 ⊢
        rw [Nat.mul_add, Nat.mul_one]
        omega
    have h1 := hl (x :: r) h
    rw [Nat.add_mul]
    simp only [List.length_cons] at h1 ⊢
    have : sep.length * r.length ≤ sep.length * (r.length + 1) := Nat.mul_le_mul_left _ (by omega)
    omega
theorem textL_len {ns : List Nat} (h : ∀ n ∈ ns, n ≤ 4294967295) : (textL ns).length ≤ 21 * ns.length := by
  have := join_le 20 [46] (ns.map Lib.decDigits) (by
    intro x hx
    simp only [List.mem_map] at hx
    obtain ⟨n, hn, rfl⟩ := hx
    rw [Lib.decDigits_length]
    exact nDigits_le (h n hn))
  simpa [textL] using this

theorem joinS_any (v : Value) (ss : List ByteArray) (sep : ByteArray) (w : World) (hv : IsS w v ss) (hn : ss.length ≤ 1000000) (hl : (Lib.join (ss.map (·.data.toList)) sep.data.toList).length ≤ 140737488355328) :
    Calls Tryz.prog 46 #[v, .string sep] w (RetB (.string (bStr (Lib.join (ss.map (·.data.toList)) sep.data.toList))) w) := by
  obtain ⟨A, c, rfl, h1, h2, h3, h4⟩ := hv
  by_cases h0 : 0 < ss.length
  · obtain ⟨b, off, rfl, hb, hc⟩ := h4 h0
    exact Tryz.strings_Join b off c ss sep w (fun j x hx => hc j _ (by simp [hx])) hb (by omega) h1 hl
  · have : ss = [] := List.length_eq_zero_iff.1 (by omega)
    subst this
    refine (Tryz.strings_Join_none A c sep w).mono ?_
    rintro e w' ⟨rfl, rfl⟩
    exact ⟨rfl, Below.refl _ _⟩

def decS (ns : List Nat) : List ByteArray := ns.map fun n => bStr (Lib.decDigits n)
def TRel (ns : List Nat) (w : World) (out ix : Value) (wr : World) : Prop :=
  ∃ k : Nat, ix = .int .i64 k ∧ k ≤ ns.length ∧ wr.ownsRow w.heap.size 9 1 out k ((decS (ns.take k)).map Value.string) ∧ Below w.heap.size w wr

set_option maxRecDepth 100000 in
set_option maxHeartbeats 4000000 in
theorem text_any (v : Value) (ns : List Nat) (w : World) (hG : Glo w) (hv : IsU .u32 w v ns) (hr : rightL ns = true) (hns : ∀ n ∈ ns, n ≤ 4294967295) (hl : ns.length ≤ 100000) :
    Calls Tryz.prog 123 #[v] w (RetB (.tuple #[.string (bStr (textL ns)), .int .i64 0]) w) := by
  have hlen := hv.len ulU32s
  have HRT := Lib.hid (right_any v ns · · )
  have HV := Lib.hid hv
  have HG := Lib.hid hG
  have hj := fun W x (hx : IsS W x (decS ns)) => joinS_any x (decS ns) ⟨#[46]⟩ W hx (by simp [decS]; omega) (by
    have := textL_len hns
    have e : Lib.join ((decS ns).map (·.data.toList)) [46] = textL ns := by simp [decS, textL, bStr, Function.comp_def]
    show (Lib.join ((decS ns).map (·.data.toList)) [46]).length ≤ _
    rw [e]; omega)
  have e : Lib.join ((decS ns).map (·.data.toList)) (⟨#[46]⟩ : ByteArray).data.toList = textL ns := by
    show Lib.join ((decS ns).map (·.data.toList)) [46] = textL ns
    simp [decS, textL, bStr, Function.comp_def]
  rw [e] at hj
  have HJ := Lib.hid hj
  have HN := Lib.hid hns
  rw [hr] at HRT
  have hll : (ns.length : Int) ≤ 100000 := by omega
  clear hG hv hr hj e hns
  generalize bStr (textL ns) = S at *
  obtain ⟨i0, hi0, hz0, hz1, hz2⟩ := info_parts infoStr
  go_enter Tryz.func123, Tryz.ntmps123
  go_wp2_with (first | ((go_at_call 158); ((with_reducible refine (HRT.out _ HV.out).mono ?_)); rintro e w2 ⟨rfl, rfl⟩))
  go_loopw [4, 12] (fun out ix wr => TRel ns w out ix wr) (fun _ ix _ => ns.length - (intOf ix).toNat)
  case atStart => exact ⟨0, rfl, Nat.zero_le _, World.ownsRow_nil _ _ _ _, Below.refl _ _⟩
  case round =>
    obtain ⟨k, rfl, hk, hown, hbel⟩ := hrel
    have HO := Lib.hid hown
    have HBR := Lib.hid hbel
    clear hown hbel
    by_cases hlt : k < ns.length
    · obtain ⟨b, o, hi, hbl, hc⟩ := (HV.out.below HBR.out).at_ (P := Tryz.prog) ulU32s szU32 .i64 (i := k) (by omega) (by omega)
      simp only [Int.toNat_natCast] at hc
      have hgd : ns.getD k 0 = ns[k] := by simp [hlt]
      rw [hgd] at hc
      have hnk := HN.out ns[k] (List.getElem_mem hlt)
      have HFM := Lib.hid (fmt_any ns[k] · · (by omega))
      have hgw : Glo wr := HG.out.below HBR.out
      have hlt' : (k : Int) < ns.length := by omega
      have hd : decS (ns.take (k + 1)) = decS (ns.take k) ++ [bStr (Lib.decDigits ns[k])] := by
        rw [List.take_succ_eq_append_getElem hlt, decS, List.map_append]; rfl
      have HD := Lib.hid hd
      have hwrap : IntKind.u64.wrap (ns[k] : Int) = ns[k] := by rw [IntKind.wrap_u64]; omega
      clear hgd hd
      generalize ns[k] = x at *
      generalize bStr (Lib.decDigits x) = X at *
      go_wp2_with (first | ((go_at_call 157); ((with_reducible refine (HFM.out _ hgw).mono ?_)); rintro e w3 ⟨rfl, hb3⟩) | (at_builtin; refine wpList_app _ rfl _ _ 61 rfl w.heap.size 9 i0 (.string ByteArray.empty) 1 16 ulStrs hi0 hz0 hz1 hz2 rfl (by decide) _ _ _ rfl ((ownsRow_below HO.out hb3).alloc _) _ 1 [.string X] rfl ?k0 ?k01 ?k1 ?k2 ?k3 ?_))
      case k0 => exact isR_at rfl rfl
      case k01 => intro u hu; simp at hu; subst hu; rfl
      case k1 => unfold maxLen; omega
      case k2 => omega
      case k3 => have := HBR.out.size; have := hb3.size; simp; omega
      intro out' w4 hown' _ hbel'
      have hbel2 : Below w.heap.size w w4 := (HBR.out.trans ((hb3.mono HBR.out.size).trans ((Below.refl _ _).alloc (by have := HBR.out.size; have := hb3.size; omega) _))).trans hbel'
      have hown2 : w4.ownsRow w.heap.size 9 1 out' (k + 1) ((decS (ns.take (k + 1))).map Value.string) := by
        rw [HD.out, List.map_append]; exact hown'
      have HO2 := Lib.hid hown2
      clear hown' hown2 hbel'
      go_wp2
      go_roundw
      case rel => exact ⟨k + 1, by go_num, by omega, HO2.out, hbel2⟩
      case measure => simp [intOf]; omega
    · have hkl : k = ns.length := by omega
      have hge : (ns.length : Int) ≤ k := by omega
      have hu : IsS wr u4 (decS ns) := by
        have := IsR.of_own HO.out
        rw [hkl, List.take_length] at this
        unfold IsS
        rw [show (decS ns).length = ns.length by simp [decS]]
        exact this
      have HU := Lib.hid hu
      clear hu hkl hlt
      go_wp2_with (first | ((go_at_call 46); ((with_reducible refine (HJ.out _ _ HU.out).mono ?_)); rintro e w3 ⟨rfl, hb3⟩))
      go_ret2
      exact ⟨rfl, HBR.out.trans (hb3.mono HBR.out.size)⟩

theorem dig32 (n : Nat) (h : n ≤ 4294967295) (w : World) : Calls Tryz.prog 202 #[.int .u64 n] w fun e w' => e = .returned (.string (bStr (Lib.decDigits n))) ∧ w = w' :=
  dig_any 11 n w (Nat.lt_of_le_of_lt h (by decide)) (by decide)
theorem join_snoc (xs : List (List UInt8)) (x : List UInt8) (h : xs ≠ []) : Lib.join (xs ++ [x]) [46] = Lib.join xs [46] ++ 46 :: x := by
  cases xs with
  | nil => exact absurd rfl h
  | cons y t =>
    rw [List.cons_append, Lib.join_cons, Lib.join_cons]
    simp [Lib.joinTail]
def SRel (ns : List Nat) (s ix : Value) : Prop := ∃ k : Nat, ix = .int .i64 k ∧ 1 ≤ k ∧ k ≤ ns.length ∧ s = .string (bStr (textL (ns.take k)))

set_option maxRecDepth 100000 in
set_option maxHeartbeats 4000000 in
theorem rText (v : Value) (ns : List Nat) (w : World) (hv : IsU .u32 w v ns) (hr : rightL ns = true) (hns : ∀ n ∈ ns, n ≤ 4294967295) (hl : ns.length ≤ 100000) :
    Calls Tryz.prog 204 #[v] w (RetB (.tuple #[.string (bStr (textL ns)), .int .i64 0]) w) := by
  have hlen := hv.len ulU32s
  have h2 := rightL_ne hr
  have HRT := Lib.hid (rRight v ns · · )
  have HV := Lib.hid hv
  have HN := Lib.hid hns
  rw [hr] at HRT
  have hll : (ns.length : Int) ≤ 100000 := by omega
  have h2' : (2 : Int) ≤ ns.length := by omega
  obtain ⟨b0, o0, hi0, hl0, hc0⟩ := hv.at_ (P := Tryz.prog) ulU32s szU32 .i64 (i := 0) (by omega) (by omega)
  have hx0 : ns.getD (0 : Int).toNat 0 = ns[0] := by simp [show 0 < ns.length by omega]
  rw [hx0] at hc0
  have hn0 := hns ns[0] (List.getElem_mem (by omega))
  have hd0 : textL (ns.take 1) = Lib.decDigits ns[0] := by
    rw [List.take_succ_eq_append_getElem (by omega : 0 < ns.length)]
    simp [textL, Lib.join_one]
  have HD0 := Lib.hid (dig32 ns[0] hn0)
  have H00 := Lib.hid hd0
  have hw0 : IntKind.u64.wrap (ns[0] : Int) = ns[0] := by rw [IntKind.wrap_u64]; omega
  clear hr hv hns hx0 hd0 hn0
  generalize ns[0] = x0 at *
  go_enter Tryz.func204, Tryz.ntmps204
  go_wp2_with (first | ((go_at_call 165); ((with_reducible refine (HRT.out _ HV.out).mono ?_)); rintro e w2 ⟨rfl, rfl⟩) | ((go_at_call 202); ((with_reducible refine (HD0.out _).mono ?_)); rintro e w2 ⟨rfl, rfl⟩))
  go_loop [4, 5] (fun s ix => SRel ns s ix) (fun _ ix => ns.length - (intOf ix).toNat)
  case atStart => exact ⟨1, rfl, Nat.le_refl _, by omega, by rw [H00.out]⟩
  case round =>
    obtain ⟨k, rfl, hk1, hk, rfl⟩ := hrel
    by_cases hlt : k < ns.length
    · obtain ⟨b, o, hi, hbl, hc⟩ := HV.out.at_ (P := Tryz.prog) ulU32s szU32 .i64 (i := k) (by omega) (by omega)
      simp only [Int.toNat_natCast] at hc
      have hgd : ns.getD k 0 = ns[k] := by simp [hlt]
      rw [hgd] at hc
      have hnk := HN.out ns[k] (List.getElem_mem hlt)
      have HDK := Lib.hid (dig32 ns[k] hnk)
      have hlt' : (k : Int) < ns.length := by omega
      have hd : textL (ns.take (k + 1)) = textL (ns.take k) ++ 46 :: Lib.decDigits ns[k] := by
        rw [List.take_succ_eq_append_getElem hlt]
        unfold textL
        rw [List.map_append, List.map_cons, List.map_nil, join_snoc _ _ (by intro e; have := congrArg List.length e; simp only [List.length_map, List.length_take, List.length_nil] at this; omega)]
      have hl1 := textL_len (ns := ns.take k) (fun n hn => HN.out n (List.mem_of_mem_take hn))
      have hl2 : (ns.take k).length = k := by simp; omega
      have hd20 := nDigits_le hnk
      have hs1 : (bStr (textL (ns.take k))).size + (⟨#[46]⟩ : ByteArray).size ≤ 9223372036854775807 := by
        show (textL (ns.take k)).length + 1 ≤ _; omega
      have hs2 : (bStr (textL (ns.take k)) ++ (⟨#[46]⟩ : ByteArray)).size + (bStr (Lib.decDigits ns[k])).size ≤ 9223372036854775807 := by
        rw [show (⟨#[46]⟩ : ByteArray) = bStr [46] from rfl, bStr_app]
        show (textL (ns.take k) ++ [46]).length + (Lib.decDigits ns[k]).length ≤ _
        rw [Lib.decDigits_length, List.length_append]
        simp only [List.length_cons, List.length_nil]
        omega
      have hd' : bStr (textL (ns.take k)) ++ (⟨#[46]⟩ : ByteArray) ++ bStr (Lib.decDigits ns[k]) = bStr (textL (ns.take (k + 1))) := by
        rw [show (⟨#[46]⟩ : ByteArray) = bStr [46] from rfl, bStr_app, bStr_app, hd]
        simp
      obtain ⟨S', hS'⟩ : ∃ S', bStr (textL (ns.take (k + 1))) = S' := ⟨_, rfl⟩
      rw [hS'] at hd'
      have HSS := Lib.hid hS'
      have HD := Lib.hid hd'
      have hwrap : IntKind.u64.wrap (ns[k] : Int) = ns[k] := by rw [IntKind.wrap_u64]; omega
      clear hgd hd hd' hl1 hl2 hd20 hS'
      generalize bStr (textL (ns.take k)) = S at *
      generalize ns[k] = x at *
      generalize bStr (Lib.decDigits x) = X at *
      go_wp2_with (first | ((go_at_call 202); ((with_reducible refine (HDK.out _).mono ?_)); rintro e w2 ⟨rfl, rfl⟩))
      go_round
      case rel => exact ⟨k + 1, by go_num, by omega, by omega, by rw [HSS.out, HD.out]⟩
      case measure => simp [intOf]; omega
    · have hkl : k = ns.length := by omega
      have hge : (ns.length : Int) ≤ k := by omega
      have HT : Hid (bStr (textL (ns.take k)) = bStr (textL ns)) := by show _ = _; rw [hkl, List.take_length]
      clear hkl hlt
      generalize bStr (textL (ns.take k)) = S' at *
      generalize bStr (textL ns) = S at *
      go_wp2
      rw [← HT.out]
      go_ret2
      exact ⟨rfl, Below.refl _ _⟩
end Go.Proofs.YtlmnmgokfnnbbaaGreatDoor
end
