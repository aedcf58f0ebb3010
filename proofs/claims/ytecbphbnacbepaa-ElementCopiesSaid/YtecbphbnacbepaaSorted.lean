/- Walk over element.Sorted. -/
import Derived.Test.YtecbphbnacbepaaCompB
import Derived.Test.YtecbphbnacbepaaAwake
set_option linter.unusedSimpArgs false
set_option linter.unusedVariables false
namespace Go.Proofs.Ytecbphbnacbepaa
open Go.RowKit Go.Cr

set_option maxRecDepth 100000 in
set_option maxHeartbeats 2000000 in
theorem compact_any (o : Value) (base b2 : Nat) (vs : List Value) (ls : List (List UInt8)) (w : World) (hrow : w.ownsRow base 30 1 o ls.length vs) (hel : OwE w b2 vs ls) (hs : NonDesc ls) (hn : ls.length ≤ 1000000) :
    Calls Try.prog 43 #[o, .func (.func 44) #[] #[]] w (RetComp o base b2 ls w) := by
  rcases hrow.2 with ⟨rfl, h0⟩ | ⟨g, cap, cur, rfl, _⟩
  · have hl : ls = [] := List.eq_nil_of_length_eq_zero h0
    subst hl
    have hfin : Hid (RetComp (.slice none 0 0) base b2 [] w (.returned (.slice none 0 0)) w) := ⟨_, [], vs, rfl, ⟨trivial, fun x => Iff.rfl⟩, hrow, hel, World.grownBy.refl _ _⟩
    clear hrow hel hs
    go_enter Try.func43, Try.ntmps43
    go_wp2
    refine bodyPost_ret (v := .slice none 0 0) (by simp only [results, Try.results43]; go_simp) rfl hfin.out
  · exact compact_own g cap base b2 vs ls w hrow hel hs hn

theorem own_below {w w' : World} {base : Nat} {e : TypeId} {size : Nat} {v : Value} {n : Nat} {xs : List Value} (ho : w.ownsRow base e size v n xs) (hg : w.grownBy w' v.ownBlock) (hb : base ≤ w.heap.size) : Below base w w' :=
  ⟨hg.os, hg.tape, hg.output, hg.size, fun k hk => hg.block k (by omega) (fun h => by have := (ho.lt _ h.symm).1; omega)⟩

def PsRel (ls : List (List UInt8)) (w : World) (out i : Value) (wr : World) : Prop :=
  ∃ (k : Nat) (vs : List Value), k ≤ ls.length ∧ i = .int .i64 k ∧ wr.ownsRow w.heap.size 30 1 out k vs ∧ OwE wr w.heap.size vs (ls.take k) ∧ Below w.heap.size w wr
/-- What Sorted leaves: the sorted parts, all of its own. -/
def RetSd (ls : List (List UInt8)) (w : World) (e : Ending) (w' : World) : Prop :=
  ∃ o r vs, e = .returned o ∧ SortOf ls r ∧ w'.ownsRow w.heap.size 30 1 o r.length vs ∧ OwE w' w.heap.size vs r ∧ Below w.heap.size w w'

set_option maxRecDepth 100000 in
set_option maxHeartbeats 8000000 in
theorem pSorted (v : Value) (ls : List (List UInt8)) (w : World) (hv : IsBs w v ls) (hn : ls.length ≤ 100000) (hl : ls.flatten.length ≤ 900000) :
    Calls Try.prog 26 #[v] w (RetSd ls w) := by
  have h1 := hv.len ulBs
  have HA := Lib.hid hv
  have HL : Hid (∀ k, k < ls.length → (ls.getD k []).length ≤ 900000) := fun k hk => by
    have h2 := cat_le ls (k + 1)
    rw [cat_succ ls k hk, List.length_append] at h2
    omega
  clear hv hl
  go_enter Try.func26, Try.ntmps26
  go_wp2
  go_loopw [3, 8] (fun out i wr => PsRel ls w out i wr) (fun _ i _ => ls.length - (intOf i).toNat)
  case atStart => exact ⟨0, [], by omega, rfl, World.ownsRow_nil _ _ _ _, by simpa using OwE.nil_ w w.heap.size, Below.refl _ _⟩
  case round =>
    obtain ⟨k, vs, hk, rfl, hrow, hel, hbel⟩ := hrel
    have HROW := Lib.hid hrow
    have HEL := Lib.hid hel
    clear hrow hel
    by_cases hlt : (k : Int) < ls.length
    · obtain ⟨bb, oo, u, hi, hbb, hc, hu⟩ := HA.out.at_ (P := Try.prog) ulBs szBs .i64 (i := k) (by omega) hlt
      simp only [Int.toNat_natCast] at hu
      have cu : wr.cell? ⟨bb, oo, none⟩ = some u := below_cell hbel hbb hc
      have HC : Hid (Calls Try.prog 40 #[u] wr (RetO 5 (ls.getD k []) wr)) := clone_any u _ wr (hu.below hbel) (by have := HL.out k (by omega); omega)
      have htk : ls.take (k + 1) = ls.take k ++ [ls.getD k []] := by rw [List.take_succ_eq_append_getElem (by omega)]; simp [List.getD, show k < ls.length by omega]
      have HTK := Lib.hid htk
      obtain ⟨i0, hi0, hz0, hz1, hz2⟩ := info_parts infoBs
      have hws := hbel.size
      clear hu hc htk
      generalize ls.getD k [] = p at *
      go_wp2_with (first | (go_at_call 40; (with_reducible refine HC.out.mono ?_); rintro e w1 ⟨v1, rfl, ho1, hb1⟩; obtain ⟨uA, un, uc, rfl⟩ : ∃ A n c, v1 = .slice A n c := (by obtain ⟨A, c, h, _⟩ := ho1.isB; exact ⟨_, _, _, h⟩); have HO1 := Lib.hid ho1; clear ho1; have hz1' := hb1.size) | (at_builtin; refine wpList_app _ rfl _ _ 38 rfl w.heap.size 30 i0 (.slice none 0 0) 1 24 ulBs hi0 hz0 hz1 hz2 rfl (by decide) _ k vs rfl ((ownsRow_below HROW.out hb1).alloc _) _ 1 [.slice uA un uc] rfl (isR_at rfl rfl) (by intro u hu; simp only [List.mem_singleton] at hu; subst hu; rfl) (by have : maxLen = 9223372036854775807 := rfl; omega) (by omega) ?k3 ?_))
      case k3 => simp; omega
      intro v2 w2 ho2 hg2 hb2
      have hel2 : OwE w2 w.heap.size (vs ++ [.slice uA un uc]) (ls.take k ++ [p]) := OwE.keepNe (((HEL.out.below hb1).alloc _).snoc ((HO1.out.more hws).alloc _)) ((ownsRow_below HROW.out hb1).alloc _) hg2
      rw [← HTK.out] at hel2
      have HE2 := Lib.hid hel2
      have HO2 := Lib.hid ho2
      have hbel2 : Below w.heap.size w w2 := ((below_t hbel hb1).alloc (by omega) _).trans hb2
      clear ho2 hel2 hg2
      go_wp2
      go_roundw
      case rel => exact ⟨k + 1, _, by omega, by go_num, by simpa using HO2.out, HE2.out, hbel2⟩
      case measure => simp [intOf]; omega
    · obtain rfl : k = ls.length := by omega
      have hel' := HEL.out
      rw [List.take_length] at hel'
      have HS : Hid (Calls Try.prog 41 #[u3, .func (.func 42) #[] #[]] wr (RetSort u3 w.heap.size w.heap.size ls wr)) := sort_own u3 w.heap.size w.heap.size vs ls wr HROW.out hel' (by omega)
      have hws := hbel.size
      clear hel'
      go_wp2_with (first | (go_at_call 41; (with_reducible refine HS.out.mono ?_); rintro e w1 ⟨rfl, vs1, ls1, hr1, he1, hl1, hnd, hmm, hg1⟩; have hb1 := own_below HROW.out hg1 hws; have HC := Lib.hid (compact_any u3 w.heap.size w.heap.size vs1 ls1 w1 (by rw [hl1]; exact hr1) he1 hnd (by omega)); have HR1 := Lib.hid hr1; have HM := Lib.hid hmm; clear hr1 he1 hnd hg1 hmm) | (go_at_call 43; (with_reducible refine HC.out.mono ?_); rintro e w2 ⟨o', r, vs2, rfl, hso, hir, he2, hg2⟩; have HF : Hid (RetSd ls w (.returned o') w2) := ⟨o', r, vs2, rfl, ⟨hso.1, fun x => (hso.2 x).trans (HM.out x)⟩, hir, he2, (hbel.trans hb1).trans (own_below HR1.out hg2 (by have := hb1.size; omega))⟩; clear hso hir he2 hg2))
      refine bodyPost_ret (v := o') (by simp only [results, Try.results26]; go_simp) rfl HF.out
end Go.Proofs.Ytecbphbnacbepaa
