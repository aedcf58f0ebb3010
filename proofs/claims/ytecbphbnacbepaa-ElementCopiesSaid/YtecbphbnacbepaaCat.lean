/- Walks over slices.Grow (at nil) and slices.Concat. -/
import Derived.Test.YtecbphbnacbepaaRev
import Derived.Test.YtecbphbnacbepaaKitE
import Derived.Outline
set_option linter.unusedSimpArgs false
set_option linter.unusedVariables false
namespace Go.Proofs.Ytecbphbnacbepaa
open Go.RowKit Go.Cr

theorem ulInt : Try.prog.underlying 3 = some (.int .i64) := by kernel_rfl
theorem ulBs : Try.prog.underlying 38 = some (.slice 30) := by kernel_rfl
theorem szBs (W : World) : (sizeOf 30).run Try.prog W = .ok 1 W := by kernel_rfl

theorem wpList_app_run {P : Program} (w : World) {ops : Array Oper} {rest : List Oper} {o : Oper} {a : Act} {Q : Exit → Act → World → Prop} (hgd : o.guard = none) (s y : Operand) (t t' : TypeId)
    (ho : o.op = .call { callee := .builtin .append, args := #[s, y], argTypes := #[t, t'] }) (v x v' : Value) (w' : World) (hs : a.eval s = v) (hyx : a.eval y = x)
    (hr : ∀ ty, (Builtin.append_ #[t, t'] ty #[v, x]).run P w = .ok v' w') (h : wpList P ops Q rest (a.put o.dst v') w') : wpList P ops Q (o :: rest) a w :=
  wpList_plain hgd fun _ hK => by
    unfold Oper.wp execOp
    simp only [ho, resolve, invoke, builtin, Sem.run_bind, Sem.run_pure, Result.andThen_ok, List.map_toArray, List.map_cons, List.map_nil, hs, hyx, hr]
    exact hK _ _ h

set_option maxRecDepth 100000 in
set_option maxHeartbeats 1000000 in
theorem grow_nil (n : Nat) (w : World) (hn : n ≤ 1000000) : Calls Try.prog 51 #[.slice none 0 0, .int .i64 n] w (RetO 5 [] w) := by
  by_cases h0 : 0 < n
  · obtain ⟨i0, hi, hz0, hz1, hz2⟩ := info_parts infoB
    have hn' : (n : Int) ≤ 1000000 := by omega
    obtain ⟨cap, cur, ha, hc1, hc2, hc3⟩ := run_append_zeros (P := Try.prog) w 3 ulB ulInt hi hz0 hz1 hz2 rfl n h0 hn
    have HA := Lib.hid ha
    have HC := Lib.hid hc3
    clear ha hc3
    go_enter Try.func51, Try.ntmps51
    go_wp2_with (at_builtin; refine wpList_app_run _ rfl _ _ 30 3 rfl _ _ _ _ rfl rfl HA.out ?_)
    go_ret
    refine ⟨_, rfl, ⟨by simp [bCells], .inr ⟨w.heap.size, cap, cur, rfl, Nat.le_refl _, ?_, by simp, hc2, HC.out, by simp [bCells]⟩⟩, ?_⟩
    · exact heap_alloc_new w.drew _
    · ((repeat' (first | (with_reducible exact Below.refl _ _) | (with_reducible assumption) | (with_reducible refine Below.setCell ?_ ?_ _) | (with_reducible refine Below.alloc ?_ ?_ _) | (with_reducible refine Below.drew ?_) | (with_reducible refine below_drewN ?_ _) | (with_reducible refine Below.step (by with_reducible assumption) ?_ ?_))) <;> (first | omega | (simp; done) | (simp; omega)))
  · obtain rfl : n = 0 := by omega
    go_enter Try.func51, Try.ntmps51
    go_wp2
    go_ret
    exact ⟨_, rfl, OwB.nil_ _ _ _, Below.refl _ _⟩

def cat (ls : List (List UInt8)) (k : Nat) : List UInt8 := (ls.take k).flatten
theorem cat_zero (ls : List (List UInt8)) : cat ls 0 = [] := by simp [cat]
theorem cat_all (ls : List (List UInt8)) : cat ls ls.length = ls.flatten := by simp [cat]
theorem cat_succ (ls : List (List UInt8)) (k : Nat) (h : k < ls.length) : cat ls (k + 1) = cat ls k ++ ls.getD k [] := by
  unfold cat
  rw [List.take_add_one, List.flatten_append, List.getElem?_eq_getElem h]
  simp [h]
theorem cat_le (ls : List (List UInt8)) (k : Nat) : (cat ls k).length ≤ ls.flatten.length := by
  have := congrArg List.flatten (List.take_append_drop k ls)
  rw [List.flatten_append] at this
  rw [← this, List.length_append]
  simp [cat]

def CatRel (ls : List (List UInt8)) (w : World) (i out : Value) (wr : World) : Prop :=
  ∃ k : Nat, k ≤ ls.length ∧ i = .int .i64 k ∧ OwB wr w.heap.size 5 out (cat ls k) ∧ Below w.heap.size w wr

set_option maxRecDepth 100000 in
set_option maxHeartbeats 2000000 in
theorem concat_any (v : Value) (ls : List (List UInt8)) (w : World) (hv : IsBs w v ls) (hn : ls.flatten.length ≤ 1000000) :
    Calls Try.prog 38 #[v] w (RetO 5 ls.flatten w) := by
  have hlen := hv.len ulBs
  have hmx := hv.maxl
  have HV := Lib.hid hv
  clear hv
  obtain ⟨F, hF⟩ : ∃ F, ls.flatten = F := ⟨_, rfl⟩
  have hcl : ∀ k, (cat ls k).length ≤ F.length := fun k => by rw [← hF]; exact cat_le ls k
  rw [hF] at hn ⊢
  have hall : cat ls ls.length = F := by rw [cat_all, hF]
  have HA := Lib.hid hall
  have HC := Lib.hid hcl
  clear hF hall hcl
  go_enter Try.func38, Try.ntmps38
  go_wp2
  go_loop [11, 3] (fun i n => ∃ k : Nat, k ≤ ls.length ∧ i = .int .i64 k ∧ n = .int .i64 (cat ls k).length) (fun i _ => ls.length - (intOf i).toNat)
  case atStart => exact ⟨0, by omega, rfl, by rw [cat_zero]; rfl⟩
  case round =>
    obtain ⟨k, hk, rfl, rfl⟩ := hrel
    by_cases hlt : (k : Int) < ls.length
    · obtain ⟨b, o, u, hi, hb, hc, hu⟩ := HV.out.at_ (P := Try.prog) ulBs szBs .i64 (i := k) (by omega) hlt
      rw [Int.toNat_natCast] at hu
      have hul := hu.len ulB
      have h1 : (cat ls (k + 1)).length = (cat ls k).length + (ls.getD k []).length := by rw [cat_succ ls k (by omega), List.length_append]
      have h2 := HC.out (k + 1)
      have H1 := Lib.hid h1
      have h3 : ((cat ls k).length : Int) + (ls.getD k []).length ≤ 1000000 := by omega
      clear h1 h2 hu
      generalize (ls.getD k []).length = q at *
      generalize hp : (cat ls k).length = p at *
      go_wp2
      go_round
      case rel => exact ⟨k + 1, by omega, by go_num, by rw [H1.out]; go_num⟩
      case measure => simp [intOf]; omega
    · obtain rfl : k = ls.length := by omega
      rw [HA.out]
      have hn' : (F.length : Int) ≤ 1000000 := by omega
      have HN := Lib.hid hn
      clear hn
      go_wp2_with (go_at_call 51; (with_reducible refine (grow_nil _ w HN.out).mono ?_); rintro e w1 ⟨g0, rfl, ho1, hb1⟩; have HO1 := Lib.hid ho1; clear ho1)
      go_wp2
      go_loopw [27, 6] (fun i out wr => CatRel ls w i out wr) (fun i _ _ => ls.length - (intOf i).toNat)
      case atStart => exact ⟨0, by omega, rfl, by rw [cat_zero]; exact HO1.out, hb1⟩
      case round =>
        obtain ⟨k, hk, rfl, ho, hbel⟩ := hrel
        have HO := Lib.hid ho
        clear ho
        by_cases hlt : (k : Int) < ls.length
        · obtain ⟨b, o, u, hi, hb, hc, hu⟩ := (HV.out.below hbel).at_ (P := Try.prog) ulBs szBs .i64 (i := k) (by omega) hlt
          rw [Int.toNat_natCast] at hu
          have HU := Lib.hid hu
          have H1 := Lib.hid (cat_succ ls k (by omega))
          have H2 := Lib.hid (HC.out (k + 1))
          clear hu
          go_wp2_with (at_builtin; refine wpList_appB _ rfl _ _ 30 rfl w.heap.size 5 ulB infoB _ _ rfl HO.out _ _ rfl HU.out ?k1 ?k2 ?_)
          case k1 => have := H2.out; rw [H1.out, List.length_append] at this; have := HN.out; omega
          case k2 => exact hbel.size
          intro v2 w2 ho2 _ hb2
          have HO2 := Lib.hid ho2
          have hbel2 : Below w.heap.size w w2 := hbel.trans hb2
          clear ho2 hb2
          go_wp2
          go_roundw
          case rel => exact ⟨k + 1, by omega, by go_num, by rw [H1.out]; exact HO2.out, hbel2⟩
          case measure => simp [intOf]; omega
        · obtain rfl : k = ls.length := by omega
          rw [HA.out] at HO
          go_wp2
          go_ret
          exact ⟨_, rfl, HO.out, hbel⟩
end Go.Proofs.Ytecbphbnacbepaa
