/- The walk over awake: the fixed results that the document gives. -/
import Derived.Test.YtecbphbnacbepaaTagsC
set_option linter.unusedSimpArgs false
set_option linter.unusedVariables false
namespace Go.Proofs.Ytecbphbnacbepaa
open Go.RowKit Go.Cr

theorem isR_lit {w : World} {t : TypeId} {arr : Array Value} {k n g : Nat} (hg : g = w.heap.size) (hk : arr.size = n * k) (hn : n ≤ maxLen) : IsR (w.alloc (.cells arr t)) (.slice (some ⟨g, 0, none⟩) n n) k n arr.toList := by
  subst hg
  refine ⟨_, n, rfl, Nat.le_refl _, hn, by simp [hk], fun _ => ⟨w.heap.size, 0, rfl, by simp, fun j x hj => ?_⟩⟩
  rw [Nat.zero_add, World.cell?_alloc_new]
  simpa using hj
theorem isB_lit {w : World} {t : TypeId} {arr : Array Value} {l : List UInt8} {n g : Nat} (hg : g = w.heap.size) (hl : l.length = n) (ha : arr.toList = bCells l) (hn : n ≤ maxLen) : IsB (w.alloc (.cells arr t)) (.slice (some ⟨g, 0, none⟩) n n) l := by
  subst hl
  have := isR_lit (w := w) (t := t) (arr := arr) (k := 1) (n := l.length) (g := g) hg (by rw [← Array.length_toList, ha, bCells_len]; simp) hn
  rw [ha] at this
  exact this.bytes
theorem isB_a {w : World} {t : TypeId} {g : Nat} (hg : g = w.heap.size) : IsB (w.alloc (.cells #[.int .u8 2, .int .u8 1, .int .u8 5, .int .u8 5, .int .u8 0] t)) (.slice (some ⟨g, 0, none⟩) 5 5) [2, 1, 5, 5, 0] :=
  isB_lit hg rfl rfl (by decide)
theorem isB_b {w : World} {t : TypeId} {g : Nat} (hg : g = w.heap.size) : IsB (w.alloc (.cells #[.int .u8 2, .int .u8 1, .int .u8 5] t)) (.slice (some ⟨g, 0, none⟩) 3 3) [2, 1, 5] :=
  isB_lit hg rfl rfl (by decide)
theorem isB_c {w : World} {t : TypeId} {g : Nat} (hg : g = w.heap.size) : IsB (w.alloc (.cells #[.int .u8 48, .int .u8 3, .int .u8 2, .int .u8 1, .int .u8 5] t)) (.slice (some ⟨g, 0, none⟩) 5 5) [48, 3, 2, 1, 5] :=
  isB_lit hg rfl rfl (by decide)
theorem isBs_lit1 {w : World} {t : TypeId} {a : Value} {la : List UInt8} {g : Nat} (hg : g = w.heap.size) (ha : IsB w a la) : IsBs (w.alloc (.cells #[a] t)) (.slice (some ⟨g, 0, none⟩) 1 1) [la] := by
  refine ⟨[a], isR_lit (arr := #[a]) (k := 1) hg rfl (by decide), fun j hj => ?_⟩
  match j, hj with
  | 0, _ => exact ha.alloc _

theorem isR_e {w : World} {t : TypeId} {g : Nat} (hg : g = w.heap.size) : IsR (w.alloc (.cells #[.int .i64 0, .int .i64 2, .bool false, .int .i64 0, .int .i64 2, .int .i64 3, .int .i64 0, .int .i64 5, .bool false, .int .i64 3, .int .i64 5, .int .i64 5] t)) (.slice (some ⟨g, 0, none⟩) 2 2) 6 2 (elCells [⟨0, 2, false, 0, 2, 3⟩, ⟨0, 5, false, 3, 5, 5⟩]) :=
  isR_lit hg rfl (by decide)
theorem below_a {w w' : World} {o : Obj} (hb : Below (w.alloc o).heap.size (w.alloc o) w') : Below w.heap.size w w' :=
  ((Below.refl _ _).alloc (Nat.le_refl _) _).trans (hb.mono (by simp))
theorem below_t {a b c : World} (h1 : Below a.heap.size a b) (h2 : Below b.heap.size b c) : Below a.heap.size a c := h1.trans (h2.mono h1.size)
def awL : List Elem := [⟨0, 2, false, 0, 2, 3⟩, ⟨0, 5, false, 3, 5, 5⟩]
theorem awake_list : listE [2, 1, 5, 5, 0] 0 5 = .ok awL := by kernel_rfl
theorem awake_seq : encO 0 true 16 [2, 1, 5] = [48, 3, 2, 1, 5] := by kernel_rfl
theorem awake_tags : (⟨(tagsL awL).toArray⟩ : ByteArray) = ⟨#[48, 50, 32, 48, 53]⟩ := by kernel_rfl

theorem aw_list (v : Value) (W : World) (h : IsB W v [2, 1, 5, 5, 0]) : Calls Try.prog 21 #[v, .int .i64 0, .int .i64 5] W fun e w' =>
    ∃ o, e = .returned (.tuple #[o, .agg #[.int .i64 0, .int .i64 0]]) ∧ IsR w' o 6 2 (elCells awL) ∧ Below W.heap.size W w' := by
  refine (list_any v [2, 1, 5, 5, 0] 0 5 W h (by decide)).mono ?_
  rintro e w' ⟨hb, hh⟩
  rw [awake_list] at hh
  rcases hh with ⟨er, h1, _⟩ | ⟨xs, o, h1, h2, h3⟩
  · cases h1
  · injection h1 with h1
    subst h1
    exact ⟨o, h2, IsR.of_own h3, hb⟩
theorem aw_seq (v : Value) (W : World) (h : IsBs W v [[2, 1, 5]]) : Calls Try.prog 19 #[v] W fun e w' =>
    ∃ o, e = .returned (.tuple #[o, .int .i64 0]) ∧ IsB w' o [48, 3, 2, 1, 5] ∧ Below W.heap.size W w' := by
  refine (pSeq v [[2, 1, 5]] W h (by decide)).mono ?_
  intro e w' hh
  unfold RetW at hh
  rw [if_pos (by decide)] at hh
  obtain ⟨o, h1, h2, h3⟩ := hh
  exact ⟨o, h1, by have := h2.isB; rwa [show ([[2, 1, 5]] : List (List UInt8)).flatten = [2, 1, 5] from rfl, awake_seq] at this, h3⟩
theorem aw_tags (v : Value) (W : World) (h : IsR W v 6 2 (elCells awL)) : Calls Try.prog 12 #[v] W (RetB (.string ⟨#[48, 50, 32, 48, 53]⟩) W) := by
  have := tags_any v awL W h (by decide)
  rwa [awake_tags] at this

set_option maxRecDepth 100000 in
set_option maxHeartbeats 4000000 in
theorem awake_any (w : World) : Calls Try.prog 10 #[] w (RetB (.bool true) w) := by
  go_enter Try.func10, Try.ntmps10
  go_wp2_with (first | (go_at_call 21; (with_reducible refine (aw_list _ _ (isB_a (by simp))).mono ?_); rintro e w1 ⟨o1, rfl, ho1, hb1⟩; have HO1 := Lib.hid ho1; clear ho1; have B1 := below_a hb1; clear hb1) | (go_at_call 19; (with_reducible refine (aw_seq _ _ (isBs_lit1 (by simp) (isB_b (by simp)))).mono ?_); rintro e w2 ⟨o2, rfl, ho2, hb2⟩; have HO2 := Lib.hid ho2; clear ho2; have K2 := Blk.call (((Blk.new w1 33 #[.int .i64 0, .int .i64 0]).alloc _).alloc _) hb2; have lK2 := K2.lt; have qK2 := K2.q; have rK2 := K2.fz; have K2' := Lib.hid K2; clear K2; have K2 := K2'.out; clear K2'; have B2 := below_a (below_a (below_a hb2)); clear hb2) | (go_at_call 23; (with_reducible refine (elements_same _ _ awL _ ((HO1.out.below B2).alloc _) (isR_e (by simp))).mono ?_); rintro e w3 ⟨rfl, hb3⟩; have B3 := below_a hb3; clear hb3) | (go_at_call 12; (with_reducible refine (aw_tags _ _ (HO1.out.below (below_t B2 B3))).mono ?_); rintro e w4 ⟨rfl, hb4⟩) | (go_at_call 20; (with_reducible refine (bytes_same _ _ _ _ ((HO2.out.below (below_t B3 hb4)).alloc _) (isB_c (by simp))).mono ?_); rintro e w5 ⟨rfl, hb5⟩; have B5 := below_a hb5; clear hb5))
  have B := below_t (below_t (below_t (below_t B1 B2) B3) hb4) B5
  (refine bodyPost_retB (v := .bool true) (by (simp only [results, Try.results10]; try go_simp)) rfl rfl ?_; ((repeat' (first | (with_reducible exact Below.refl _ _) | (with_reducible assumption) | (with_reducible refine Below.setCell ?_ ?_ _) | (with_reducible refine Below.alloc ?_ ?_ _) | (with_reducible refine Below.drew ?_) | (with_reducible refine below_drewN ?_ _) | (with_reducible refine Below.step (by with_reducible assumption) ?_ ?_))) <;> (first | omega | (simp; done) | (simp; omega))))
end Go.Proofs.Ytecbphbnacbepaa
