/- Walk over element.List: a loop that appends structs. -/
import Derived.Test.YtecbphbnacbepaaElemB
import Derived.Test.YtecbphbnacbepaaKitB
set_option linter.unusedSimpArgs false
set_option linter.unusedVariables false
namespace Go.Proofs.Ytecbphbnacbepaa
open Go.RowKit Go.Cr

theorem infoEl : (Try.prog.info? 27).map (fun i => (i.zero, i.size, i.bytes)) = some (some (elV Elem.zero), 6, 48) := by kernel_rfl
theorem ulEl : Try.prog.underlying 22 = some (.slice 27) := by kernel_rfl
def elCells (xs : List Elem) : List Value := xs.flatMap Elem.cells
theorem elCells_len (xs : List Elem) : (elCells xs).length = xs.length * 6 := by
  induction xs with
  | nil => rfl
  | cons x t ih => simp only [elCells, List.flatMap_cons, List.length_append, List.length_cons] at *; rw [ih]; simp [Elem.cells]; omega
theorem elCells_snoc (xs : List Elem) (x : Elem) : elCells (xs ++ [x]) = elCells xs ++ x.cells := by simp [elCells]
/-- What List and Parts leave. -/
def RetL (r : Except Err (List Elem)) (w : World) (e : Ending) (w' : World) : Prop :=
  Below w.heap.size w w' ∧ ((∃ er, r = .error er ∧ e = .returned (.tuple #[.slice none 0 0, errV er])) ∨
    ∃ xs o, r = .ok xs ∧ e = .returned (.tuple #[o, errV (0, 0)]) ∧ w'.ownsRow w.heap.size 27 6 o xs.length (elCells xs))

def LRel (l : List UInt8) (a0 e0 : Int) (r : Except Err (List Elem)) (w : World) (out at_ : Value) (wr : World) : Prop :=
  ∃ (k : Nat) (xs : List Elem) (a : Int), at_ = .int .i64 a ∧ a0 ≤ a ∧ a ≤ e0 ∧ (e0 - a) ≤ k ∧ (xs.length : Int) ≤ a - a0 ∧ listAcc l k xs a e0 = r ∧
    wr.ownsRow (w.heap.size + 1) 27 6 out xs.length (elCells xs) ∧ Below w.heap.size w wr ∧ w.heap.size < wr.heap.size ∧
    wr.cell? ⟨w.heap.size, 0, none⟩ = some (.int .i64 0) ∧ wr.cell? ⟨w.heap.size, 1, none⟩ = some (.int .i64 0) ∧ wr.frozen? ⟨w.heap.size, 0, none⟩ = false ∧ wr.frozen? ⟨w.heap.size, 1, none⟩ = false

set_option maxRecDepth 100000 in
set_option maxHeartbeats 4000000 in
theorem list_in (v : Value) (l : List UInt8) (a0 e0 : Int) (w : World) (hw : IsB w v l) (h0 : 0 ≤ a0) (h1 : a0 ≤ e0) (h2 : e0 ≤ l.length) (hL : (l.length : Int) ≤ 1000000) :
    Calls Try.prog 21 #[v, .int .i64 a0, .int .i64 e0] w (RetL (listAcc l (e0 - a0).toNat [] a0 e0) w) := by
  have hlen := hw.len ulB
  have HB := Lib.hid hw
  obtain ⟨r, hr⟩ : ∃ r, listAcc l (e0 - a0).toNat [] a0 e0 = r := ⟨_, rfl⟩
  rw [hr]
  have HR := Lib.hid hr
  clear hr hw
  go_enter Try.func21, Try.ntmps21
  go_wp2
  go_loopw [8, 9] (fun out at_ wr => LRel l a0 e0 r w out at_ wr) (fun _ at_ _ => (e0 - intOf at_).toNat)
  case atStart => exact ⟨(e0 - a0).toNat, [], a0, rfl, by omega, by omega, by omega, by simp, HR.out, World.ownsRow_nil _ _ _ _, (Below.refl _ _).alloc (Nat.le_refl _) _, by simp, by simp, by simp, by simp [go_sem], by simp [go_sem]⟩
  case round =>
    obtain ⟨k, xs, a, rfl, ha1, ha2, hk, hxs, hacc, hown, hbel, hsz, hc0, hc1, hf0, hf1⟩ := hrel
    clear hlen HR
    have HO := Lib.hid hown
    clear hown
    by_cases hlt : a < e0
    · obtain ⟨k, rfl⟩ : ∃ k', k = k' + 1 := ⟨k - 1, by omega⟩
      simp only [listAcc] at hacc
      rw [if_pos hlt] at hacc
      cases hx : nextE l a e0 with
      | error er =>
        obtain ⟨ec, eo⟩ := er
        rw [hx] at hacc
        subst hacc
        have hbd := nextE_err (by omega) (by omega) (by omega) hx
        have HN : Hid (∀ W, IsB W v l → Calls Try.prog 35 #[v, .int .i64 a, .int .i64 e0] W (RetB (.tuple #[elV Elem.zero, errV (ec, eo)]) W)) := by
          intro W h
          have := next_any v l a e0 W h (by omega) (by omega) (by omega)
          rwa [hx] at this
        have hn : (ec == 0) = false := beq_eq_false_iff_ne.2 (by omega)
        have hn' : (ec != 0) = true := by simp; omega
        simp only [elV, errV, Elem.zero] at HN
        clear hx hbd
        go_wp2_with (first | ((go_at_call 35); ((with_reducible refine (HN.out _ (HB.out.below hbel)).mono ?_)); rintro e w1 ⟨rfl, hb1⟩; obtain ⟨hcw, hfw⟩ := bcell hb1; have hzw : w.heap.size < w1.heap.size := (by have := hb1.size; omega)))
        go_region
        go_wp2
        refine bodyPost_ret (v := .tuple #[.slice none 0 0, errV (ec, eo)]) (by simp only [results, Try.results21]; go_simp) rfl ⟨?_, .inl ⟨_, rfl, rfl⟩⟩
        ((repeat' (first | (with_reducible exact Below.refl _ _) | (with_reducible assumption) | (with_reducible refine Below.setCell ?_ ?_ _) | (with_reducible refine Below.alloc ?_ ?_ _) | (with_reducible refine Below.drew ?_) | (with_reducible refine below_drewN ?_ _) | (with_reducible refine Below.step (by with_reducible assumption) ?_ ?_))) <;> (first | omega | (simp; done) | (simp; omega)))
      | ok x =>
        rw [hx] at hacc
        have hbd := nextE_ok (by omega) (by omega) (by omega) hx
        have HN : Hid (∀ W, IsB W v l → Calls Try.prog 35 #[v, .int .i64 a, .int .i64 e0] W (RetB (.tuple #[elV x, errV (0, 0)]) W)) := by
          intro W h
          have := next_any v l a e0 W h (by omega) (by omega) (by omega)
          rwa [hx] at this
        simp only [elV, errV] at HN
        have HA := Lib.hid hacc
        clear hx hacc
        obtain ⟨hb0, hb2, hb3, hb4⟩ := hbd
        clear hb0
        obtain ⟨i0, hi, hz0, hz1, hz2⟩ := info_parts infoEl
        go_wp2_with (first | ((go_at_call 35); ((with_reducible refine (HN.out _ (HB.out.below hbel)).mono ?_)); rintro e w1 ⟨rfl, hb1⟩; obtain ⟨hcw, hfw⟩ := bcell hb1; have hzw : w.heap.size < w1.heap.size := (by have := hb1.size; omega)) | (at_builtin; refine wpList_append_own _ rfl _ _ 22 rfl (w.heap.size + 1) 27 i0 (elV Elem.zero) 6 48 ulEl hi hz0 hz1 hz2 rfl (by decide) _ _ _ rfl ((((ownsRow_below HO.out hb1).alloc _).alloc _).alloc _) _ 1 1 x.cells rfl rfl ?c1 ?c2 ?c3 ?c4 ?c5 ?_))
        case c1 =>
          intro j u hj
          have hj6 : j < 6 := by have := (List.getElem?_eq_some_iff.1 hj).1; simpa [Elem.cells] using this
          match j, hj6, hj with
          | 0, _, hj => simp [Elem.cells] at hj; subst hj; simp [Addr.add, go_sem]
          | 1, _, hj => simp [Elem.cells] at hj; subst hj; simp [Addr.add, go_sem]
          | 2, _, hj => simp [Elem.cells] at hj; subst hj; simp [Addr.add, go_sem]
          | 3, _, hj => simp [Elem.cells] at hj; subst hj; simp [Addr.add, go_sem]
          | 4, _, hj => simp [Elem.cells] at hj; subst hj; simp [Addr.add, go_sem]
          | 5, _, hj => simp [Elem.cells] at hj; subst hj; simp [Addr.add, go_sem]
        case c2 => intro u hu; simp [Elem.cells] at hu; rcases hu with rfl | rfl | rfl | rfl | rfl | rfl <;> rfl
        case c3 => unfold maxLen; omega
        case c4 => omega
        case c5 => simp; omega
        intro o' w2 hown' hgrow _
        have hsz1 := hb1.size
        have hne1 : some w1.heap.size ≠ u8.ownBlock := fun h => by have := (HO.out.lt _ h.symm).2; omega
        have hne0 : some w.heap.size ≠ u8.ownBlock := fun h => by have := (HO.out.lt _ h.symm).1; omega
        have hbo : ∀ b, u8.ownBlock = some b → w.heap.size ≤ b := fun b h => by have := (HO.out.lt _ h).1; omega
        have hBb := ((hb1.alloc hsz1 (.cells #[.int .i64 x.cls, .int .i64 x.num, .bool x.con, .int .i64 x.start, .int .i64 x.body, .int .i64 x.stop] 27)).alloc (by simp; omega) (.cells #[.int .i64 0, .int .i64 0] 33)).alloc (by simp; omega) (.cells #[.int .i64 x.cls, .int .i64 x.num, .bool x.con, .int .i64 x.start, .int .i64 x.body, .int .i64 x.stop] 27)
        have qs : w2.cell? ⟨w1.heap.size, 5, none⟩ = some (.int .i64 x.stop) := (World.cell?_of_block (hgrow.block _ (by simp; omega) hne1)).trans (by simp [go_sem])
        have q0 : w2.cell? ⟨w.heap.size, 0, none⟩ = some (.int .i64 0) := (World.cell?_of_block (hgrow.block _ (by simp; omega) hne0)).trans ((hBb.cell hsz).trans hc0)
        have q1 : w2.cell? ⟨w.heap.size, 1, none⟩ = some (.int .i64 0) := (World.cell?_of_block (hgrow.block _ (by simp; omega) hne0)).trans ((hBb.cell hsz).trans hc1)
        have r0 : w2.frozen? ⟨w.heap.size, 0, none⟩ = false := (World.frozen?_of_block (hgrow.block _ (by simp; omega) hne0)).trans ((hBb.frozen hsz).trans hf0)
        have r1 : w2.frozen? ⟨w.heap.size, 1, none⟩ = false := (World.frozen?_of_block (hgrow.block _ (by simp; omega) hne0)).trans ((hBb.frozen hsz).trans hf1)
        have hsz2 : w.heap.size < w2.heap.size := by have := hgrow.size; simp at this; omega
        have hbel2 : Below w.heap.size w w2 := ((((hb1.step hbel (by omega)).alloc (by omega) _).alloc (by simp; omega) _).alloc (by simp; omega) _).grown hgrow (by simp; omega) hbo
        have hown2 : w2.ownsRow (w.heap.size + 1) 27 6 o' (xs ++ [x]).length (elCells (xs ++ [x])) := by rw [elCells_snoc]; simpa using hown'
        have HO2 := Lib.hid hown2
        clear hgrow hown' hBb hne1 hne0 hbo hcw hfw hown2
        go_wp2
        go_roundw
        case rel => exact ⟨k, xs ++ [x], x.stop, rfl, by omega, by omega, by omega, by simp; omega, HA.out, HO2.out, hbel2, hsz2, q0, q1, r0, r1⟩
        case measure => simp [intOf]; omega
    · have hrx : r = .ok xs := by rw [← hacc]; exact listAcc_done _ _ _ _ _ (by omega)
      subst hrx
      clear hacc
      go_wp2
      refine bodyPost_ret (v := .tuple #[u8, errV (0, 0)]) (by simp only [results, Try.results21]; go_simp) rfl ⟨?_, .inr ⟨xs, u8, rfl, rfl, ?_⟩⟩
      · ((repeat' (first | (with_reducible exact Below.refl _ _) | (with_reducible assumption) | (with_reducible refine Below.setCell ?_ ?_ _) | (with_reducible refine Below.alloc ?_ ?_ _) | (with_reducible refine Below.drew ?_) | (with_reducible refine below_drewN ?_ _) | (with_reducible refine Below.step (by with_reducible assumption) ?_ ?_))) <;> (first | omega | (simp; done) | (simp; omega)))
      · exact ownsRow_more (ownsRow_setCell_below (ownsRow_setCell_below HO.out (Nat.lt_succ_self _) _) (Nat.lt_succ_self _) _) (Nat.le_succ _)
end Go.Proofs.Ytecbphbnacbepaa
