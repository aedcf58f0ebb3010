/- The parts ElemC, ElemD of one proof, one behind the other. -/
import Derived.Test.YtjjkimjdmpeddaaGreatDoorJ10
import Derived.Test.YtjjkimjdmpeddaaGreatDoorJ01

/- Walk over element.List: a loop that appends structs. -/
section
set_option linter.unusedSimpArgs false
set_option linter.unusedVariables false
namespace Go.Proofs.YtjjkimjdmpeddaaGreatDoor
open Go.RowKit Go.Cr

theorem infoEl : (Tryz.prog.info? 118).map (fun i => (i.zero, i.size, i.bytes)) = some (some (elV Elem.zero), 6, 48) := by kernel_rfl
theorem ulEl : Tryz.prog.underlying 114 = some (.slice 118) := by kernel_rfl
def elCells (xs : List Elem) : List Value := xs.flatMap Elem.cells
theorem elCells_len (xs : List Elem) : (elCells xs).length = xs.length * 6 := by
  induction xs with
  | nil => rfl
  | cons x t ih => simp only [elCells, List.flatMap_cons, List.length_append, List.length_cons] at *; rw [ih]; simp [Elem.cells]; omega
theorem elCells_snoc (xs : List Elem) (x : Elem) : elCells (xs ++ [x]) = elCells xs ++ x.cells := by simp [elCells]
/-- What List and Parts leave. -/
def RetL (r : Except Err (List Elem)) (w : World) (e : Ending) (w' : World) : Prop :=
  Below w.heap.size w w' ∧ ((∃ er, r = .error er ∧ e = .returned (.tuple #[.slice none 0 0, errV er])) ∨
    ∃ xs o, r = .ok xs ∧ e = .returned (.tuple #[o, errV (0, 0)]) ∧ w'.ownsRow w.heap.size 118 6 o xs.length (elCells xs))

def LRel (l : List UInt8) (a0 e0 : Int) (r : Except Err (List Elem)) (w : World) (out at_ : Value) (wr : World) : Prop :=
  ∃ (k : Nat) (xs : List Elem) (a : Int), at_ = .int .i64 a ∧ a0 ≤ a ∧ a ≤ e0 ∧ (e0 - a) ≤ k ∧ (xs.length : Int) ≤ a - a0 ∧ listAcc l k xs a e0 = r ∧
    wr.ownsRow (w.heap.size + 1) 118 6 out xs.length (elCells xs) ∧ Below w.heap.size w wr ∧ w.heap.size < wr.heap.size ∧
    wr.cell? ⟨w.heap.size, 0, none⟩ = some (.int .i64 0) ∧ wr.cell? ⟨w.heap.size, 1, none⟩ = some (.int .i64 0) ∧ wr.frozen? ⟨w.heap.size, 0, none⟩ = false ∧ wr.frozen? ⟨w.heap.size, 1, none⟩ = false

set_option maxRecDepth 100000 in
set_option maxHeartbeats 4000000 in
theorem list_in (v : Value) (l : List UInt8) (a0 e0 : Int) (w : World) (hw : IsB w v l) (h0 : 0 ≤ a0) (h1 : a0 ≤ e0) (h2 : e0 ≤ l.length) (hL : (l.length : Int) ≤ 1000000) :
    Calls Tryz.prog 130 #[v, .int .i64 a0, .int .i64 e0] w (RetL (listAcc l (e0 - a0).toNat [] a0 e0) w) := by
  have hlen := hw.len ulB
  have HB := Lib.hid hw
  obtain ⟨r, hr⟩ : ∃ r, listAcc l (e0 - a0).toNat [] a0 e0 = r := ⟨_, rfl⟩
  rw [hr]
  have HR := Lib.hid hr
  clear hr hw
  go_enter Tryz.func130, Tryz.ntmps130
  go_wp2
  go_loopw [8, 9] (fun out at_ wr => LRel l a0 e0 r w out at_ wr) (fun _ at_ _ => (e0 - intOf at_).toNat)
  case atStart => exact ⟨(e0 - a0).toNat, [], a0, rfl, by omega, by omega, by omega, by simp, HR.out, World.ownsRow_nil _ _ _ _, (Below.refl _ _).alloc (Nat.le_refl _) _, by simp, by simp, by simp, by simp [go_sem], by simp [go_sem]⟩
  case round =>
    obtain ⟨k, xs, a, rfl, ha1, ha2, hk, hxs, hacc, hown, hbel, hsz, hc0, hc1, hf0, hf1⟩ := hrel
    clear hlen HR
    have HO := Lib.hid hown
    clear hown
    by_cases hlt : a < e0
    · obtain ⟨k, rfl⟩ : ∃ k', k = k' + 1 := ⟨k - 1, by omega⟩
      simp only [listAcc] at hacc
      rw [if_pos hlt] at hacc
      cases hx : nextE l a e0 with
      | error er =>
        obtain ⟨ec, eo⟩ := er
        rw [hx] at hacc
        subst hacc
        have hbd := nextE_err (by omega) (by omega) (by omega) hx
        have HN : Hid (∀ W, IsB W v l → Calls Tryz.prog 143 #[v, .int .i64 a, .int .i64 e0] W (RetB (.tuple #[elV Elem.zero, errV (ec, eo)]) W)) := by
          intro W h
          have := next_any v l a e0 W h (by omega) (by omega) (by omega)
          rwa [hx] at this
        have hn : (ec == 0) = false := beq_eq_false_iff_ne.2 (by omega)
        have hn' : (ec != 0) = true := by simp; omega
        simp only [elV, errV, Elem.zero] at HN
        clear hx hbd
        go_wp2_with (first | ((go_at_call 143); ((with_reducible refine (HN.out _ (HB.out.below hbel)).mono ?_)); rintro e w1 ⟨rfl, hb1⟩; obtain ⟨hcw, hfw⟩ := bcell hb1; have hzw : w.heap.size < w1.heap.size := (by have := hb1.size; omega)))
        go_region
        go_wp2
        refine bodyPost_ret (v := .tuple #[.slice none 0 0, errV (ec, eo)]) (by simp only [results, Tryz.results130]; go_simp) rfl ⟨?_, .inl ⟨_, rfl, rfl⟩⟩
        ((repeat' (first | (with_reducible exact Below.refl _ _) | (with_reducible assumption) | (with_reducible refine Below.setCell ?_ ?_ _) | (with_reducible refine Below.alloc ?_ ?_ _) | (with_reducible refine Below.drew ?_) | (with_reducible refine below_drewN ?_ _) | (with_reducible refine Below.step (by with_reducible assumption) ?_ ?_))) <;> (first | omega | (simp; done) | (simp; omega)))
      | ok x =>
        rw [hx] at hacc
        have hbd := nextE_ok (by omega) (by omega) (by omega) hx
        have HN : Hid (∀ W, IsB W v l → Calls Tryz.prog 143 #[v, .int .i64 a, .int .i64 e0] W (RetB (.tuple #[elV x, errV (0, 0)]) W)) := by
          intro W h
          have := next_any v l a e0 W h (by omega) (by omega) (by omega)
          rwa [hx] at this
        simp only [elV, errV] at HN
        have HA := Lib.hid hacc
        clear hx hacc
        obtain ⟨hb0, hb2, hb3, hb4⟩ := hbd
        clear hb0
        obtain ⟨i0, hi, hz0, hz1, hz2⟩ := info_parts infoEl
        go_wp2_with (first | ((go_at_call 143); ((with_reducible refine (HN.out _ (HB.out.below hbel)).mono ?_)); rintro e w1 ⟨rfl, hb1⟩; obtain ⟨hcw, hfw⟩ := bcell hb1; have hzw : w.heap.size < w1.heap.size := (by have := hb1.size; omega)) | (at_builtin; refine wpList_append_own _ rfl _ _ 114 rfl (w.heap.size + 1) 118 i0 (elV Elem.zero) 6 48 ulEl hi hz0 hz1 hz2 rfl (by decide) _ _ _ rfl ((((ownsRow_below HO.out hb1).alloc _).alloc _).alloc _) _ 1 1 x.cells rfl rfl ?c1 ?c2 ?c3 ?c4 ?c5 ?_))
        case c1 =>
          intro j u hj
          have hj6 : j < 6 := by have := (List.getElem?_eq_some_iff.1 hj).1; simpa [Elem.cells] using this
          match j, hj6, hj with
          | 0, _, hj => simp [Elem.cells] at hj; subst hj; simp [Addr.add, go_sem]
          | 1, _, hj => simp [Elem.cells] at hj; subst hj; simp [Addr.add, go_sem]
          | 2, _, hj => simp [Elem.cells] at hj; subst hj; simp [Addr.add, go_sem]
          | 3, _, hj => simp [Elem.cells] at hj; subst hj; simp [Addr.add, go_sem]
          | 4, _, hj => simp [Elem.cells] at hj; subst hj; simp [Addr.add, go_sem]
          | 5, _, hj => simp [Elem.cells] at hj; subst hj; simp [Addr.add, go_sem]
        case c2 => intro u hu; simp [Elem.cells] at hu; rcases hu with rfl | rfl | rfl | rfl | rfl | rfl <;> rfl
        case c3 => unfold maxLen; omega
        case c4 => omega
        case c5 => simp; omega
        intro o' w2 hown' hgrow _
        have hsz1 := hb1.size
        have hne1 : some w1.heap.size ≠ u8.ownBlock := fun h => by have := (HO.out.lt _ h.symm).2; omega
        have hne0 : some w.heap.size ≠ u8.ownBlock := fun h => by have := (HO.out.lt _ h.symm).1; omega
        have hbo : ∀ b, u8.ownBlock = some b → w.heap.size ≤ b := fun b h => by have := (HO.out.lt _ h).1; omega
        have hBb := ((hb1.alloc hsz1 (.cells #[.int .i64 x.cls, .int .i64 x.num, .bool x.con, .int .i64 x.start, .int .i64 x.body, .int .i64 x.stop] 118)).alloc (by simp; omega) (.cells #[.int .i64 0, .int .i64 0] 38)).alloc (by simp; omega) (.cells #[.int .i64 x.cls, .int .i64 x.num, .bool x.con, .int .i64 x.start, .int .i64 x.body, .int .i64 x.stop] 118)
        have qs : w2.cell? ⟨w1.heap.size, 5, none⟩ = some (.int .i64 x.stop) := (World.cell?_of_block (hgrow.block _ (by simp; omega) hne1)).trans (by simp [go_sem])
        have q0 : w2.cell? ⟨w.heap.size, 0, none⟩ = some (.int .i64 0) := (World.cell?_of_block (hgrow.block _ (by simp; omega) hne0)).trans ((hBb.cell hsz).trans hc0)
        have q1 : w2.cell? ⟨w.heap.size, 1, none⟩ = some (.int .i64 0) := (World.cell?_of_block (hgrow.block _ (by simp; omega) hne0)).trans ((hBb.cell hsz).trans hc1)
        have r0 : w2.frozen? ⟨w.heap.size, 0, none⟩ = false := (World.frozen?_of_block (hgrow.block _ (by simp; omega) hne0)).trans ((hBb.frozen hsz).trans hf0)
        have r1 : w2.frozen? ⟨w.heap.size, 1, none⟩ = false := (World.frozen?_of_block (hgrow.block _ (by simp; omega) hne0)).trans ((hBb.frozen hsz).trans hf1)
        have hsz2 : w.heap.size < w2.heap.size := by have := hgrow.size; simp at this; omega
        have hbel2 : Below w.heap.size w w2 := ((((hb1.step hbel (by omega)).alloc (by omega) _).alloc (by simp; omega) _).alloc (by simp; omega) _).grown hgrow (by simp; omega) hbo
        have hown2 : w2.ownsRow (w.heap.size + 1) 118 6 o' (xs ++ [x]).length (elCells (xs ++ [x])) := by rw [elCells_snoc]; simpa using hown'
        have HO2 := Lib.hid hown2
        clear hgrow hown' hBb hne1 hne0 hbo hcw hfw hown2
        go_wp2
        go_roundw
        case rel => exact ⟨k, xs ++ [x], x.stop, rfl, by omega, by omega, by omega, by simp; omega, HA.out, HO2.out, hbel2, hsz2, q0, q1, r0, r1⟩
        case measure => simp [intOf]; omega
    · have hrx : r = .ok xs := by rw [← hacc]; exact listAcc_done _ _ _ _ _ (by omega)
      subst hrx
      clear hacc
      go_wp2
      refine bodyPost_ret (v := .tuple #[u8, errV (0, 0)]) (by simp only [results, Tryz.results130]; go_simp) rfl ⟨?_, .inr ⟨xs, u8, rfl, rfl, ?_⟩⟩
      · ((repeat' (first | (with_reducible exact Below.refl _ _) | (with_reducible assumption) | (with_reducible refine Below.setCell ?_ ?_ _) | (with_reducible refine Below.alloc ?_ ?_ _) | (with_reducible refine Below.drew ?_) | (with_reducible refine below_drewN ?_ _) | (with_reducible refine Below.step (by with_reducible assumption) ?_ ?_))) <;> (first | omega | (simp; done) | (simp; omega)))
      · exact ownsRow_more (ownsRow_setCell_below (ownsRow_setCell_below HO.out (Nat.lt_succ_self _) _) (Nat.lt_succ_self _) _) (Nat.le_succ _)
end Go.Proofs.YtjjkimjdmpeddaaGreatDoor
end

/- Walks over element.List (any range) and element.Parts. -/
section
set_option linter.unusedSimpArgs false
set_option linter.unusedVariables false
namespace Go.Proofs.YtjjkimjdmpeddaaGreatDoor
open Go.RowKit Go.Cr

set_option maxRecDepth 100000 in
set_option maxHeartbeats 2000000 in
theorem list_any (v : Value) (l : List UInt8) (a0 e0 : Int) (w : World) (hw : IsB w v l) (hL : (l.length : Int) ≤ 1000000) :
    Calls Tryz.prog 130 #[v, .int .i64 a0, .int .i64 e0] w (RetL (listE l a0 e0) w) := by
  by_cases hr : a0 < 0 ∨ e0 < a0 ∨ (l.length : Int) < e0
  · have HV : Hid (listE l a0 e0 = .error (9, 0)) := by show listE l a0 e0 = _; unfold listE; rw [if_pos hr]
    have hlen := hw.len ulB
    have hq : a0 < 0 ∨ (0 ≤ a0 ∧ e0 < a0) ∨ (0 ≤ a0 ∧ a0 ≤ e0 ∧ (l.length : Int) < e0) := by omega
    clear hr hw
    rcases hq with h1 | ⟨h1, h2⟩ | ⟨h1, h2, h3⟩
    all_goals
      go_enter Tryz.func130, Tryz.ntmps130
      go_wp2
      refine bodyPost_ret (v := .tuple #[.slice none 0 0, errV (9, 0)]) (by simp only [results, Tryz.results130]; go_simp) rfl ⟨?_, .inl ⟨_, HV.out, rfl⟩⟩
      ((repeat' (first | (with_reducible exact Below.refl _ _) | (with_reducible assumption) | (with_reducible refine Below.setCell ?_ ?_ _) | (with_reducible refine Below.alloc ?_ ?_ _) | (with_reducible refine Below.drew ?_) | (with_reducible refine below_drewN ?_ _) | (with_reducible refine Below.step (by with_reducible assumption) ?_ ?_))) <;> (first | omega | (simp; done) | (simp; omega)))
  · have : listE l a0 e0 = listAcc l (e0 - a0).toNat [] a0 e0 := by unfold listE; rw [if_neg hr]
    rw [this]
    exact list_in v l a0 e0 w hw (by omega) (by omega) (by omega) hL

set_option maxRecDepth 100000 in
set_option maxHeartbeats 2000000 in
theorem parts_any (v : Value) (l : List UInt8) (c n : Int) (w : World) (hw : IsB w v l) (hL : (l.length : Int) ≤ 1000000) :
    Calls Tryz.prog 96 #[v, .int .i64 c, .int .i64 n] w (RetL (partsE l c n) w) := by
  have HB := Lib.hid hw
  cases hr : oneE l with
  | error er =>
    obtain ⟨ec, eo⟩ := er
    have hbd := oneE_err hr
    have HV : Hid (partsE l c n = .error (ec, eo)) := by show partsE l c n = _; unfold partsE; rw [hr]
    have HR : Hid (∀ W, IsB W v l → Calls Tryz.prog 109 #[v] W (RetB (.tuple #[elV Elem.zero, errV (ec, eo)]) W)) := by
      intro W h
      have := one_any v l W h
      rwa [hr] at this
    have hn : (ec == 0) = false := beq_eq_false_iff_ne.2 (by omega)
    have hn' : (ec != 0) = true := by simp; omega
    clear hw hr hbd
    simp only [elV, errV, Elem.zero] at HR
    go_enter Tryz.func96, Tryz.ntmps96
    go_wp2_with (first | (go_at_call 109; (with_reducible refine (HR.out _ (HB.out.alloc _)).mono ?_); rintro e w1 ⟨rfl, hbw1⟩; obtain ⟨hcw1, hfw1⟩ := bcell hbw1; have hzw1 := hbw1.size; (try simp at hzw1); have hyw1 : w.heap.size < w1.heap.size := (by omega); (try have hyaw1 : w.heap.size + 1 < w1.heap.size := (by omega)); (try have hybw1 : w.heap.size + 2 < w1.heap.size := (by omega)); (try have hycw1 : w.heap.size + 3 < w1.heap.size := (by omega)); (try have hydw1 : w.heap.size + 4 < w1.heap.size := (by omega)); clear hzw1); have K1 := Blk.call (Blk.new w 38 #[.int .i64 0, .int .i64 0]) hbw1; have lK1 := K1.lt; have qK1 := K1.q; have rK1 := K1.fz; have K1' := Lib.hid K1; clear K1; have K1 := K1'.out; clear K1')
    go_region
    go_wp2
    refine bodyPost_ret (v := .tuple #[.slice none 0 0, errV (ec, eo)]) (by simp only [results, Tryz.results96]; go_simp) rfl ⟨?_, .inl ⟨_, HV.out, rfl⟩⟩
    ((repeat' (first | (with_reducible exact Below.refl _ _) | (with_reducible assumption) | (with_reducible refine Below.setCell ?_ ?_ _) | (with_reducible refine Below.alloc ?_ ?_ _) | (with_reducible refine Below.drew ?_) | (with_reducible refine below_drewN ?_ _) | (with_reducible refine Below.step (by with_reducible assumption) ?_ ?_))) <;> (first | omega | (simp; done) | (simp; omega)))
  | ok x =>
    have HR : Hid (∀ W, IsB W v l → Calls Tryz.prog 109 #[v] W (RetB (.tuple #[elV x, errV (0, 0)]) W)) := by
      intro W h
      have := one_any v l W h
      rwa [hr] at this
    have HI : Hid (∀ W, Calls Tryz.prog 110 #[elV x, .int .i64 c, .bool true, .int .i64 n] W (RetB (.bool (isE x c true n)) W)) := fun W => is_any x c n true W
    simp only [elV, errV] at HR HI
    cases hi : isE x c true n with
    | false =>
      have HV : Hid (partsE l c n = .error (3, 0)) := by show partsE l c n = _; unfold partsE; rw [hr]; simp [hi]
      rw [hi] at HI
      clear hw hr hi
      go_enter Tryz.func96, Tryz.ntmps96
      go_wp2_with (first | (go_at_call 109; (with_reducible refine (HR.out _ (HB.out.alloc _)).mono ?_); rintro e w1 ⟨rfl, hbw1⟩; obtain ⟨hcw1, hfw1⟩ := bcell hbw1; have hzw1 := hbw1.size; (try simp at hzw1); have hyw1 : w.heap.size < w1.heap.size := (by omega); (try have hyaw1 : w.heap.size + 1 < w1.heap.size := (by omega)); (try have hybw1 : w.heap.size + 2 < w1.heap.size := (by omega)); (try have hycw1 : w.heap.size + 3 < w1.heap.size := (by omega)); (try have hydw1 : w.heap.size + 4 < w1.heap.size := (by omega)); clear hzw1); have K1 := Blk.call (Blk.new w 38 #[.int .i64 0, .int .i64 0]) hbw1; have lK1 := K1.lt; have qK1 := K1.q; have rK1 := K1.fz; have K1' := Lib.hid K1; clear K1; have K1 := K1'.out; clear K1' | (go_at_call 110; (with_reducible refine (HI.out _).mono ?_); rintro e w2 ⟨rfl, hbw2⟩; obtain ⟨hcw2, hfw2⟩ := bcell hbw2; have hzw2 := hbw2.size; (try simp at hzw2); have hyw2 : w.heap.size < w2.heap.size := (by omega); (try have hyaw2 : w.heap.size + 1 < w2.heap.size := (by omega)); (try have hybw2 : w.heap.size + 2 < w2.heap.size := (by omega)); (try have hycw2 : w.heap.size + 3 < w2.heap.size := (by omega)); (try have hydw2 : w.heap.size + 4 < w2.heap.size := (by omega)); clear hzw2); have K2 := Blk.call ((K1.alloc _).alloc _) hbw2; have lK2 := K2.lt; have qK2 := K2.q; have rK2 := K2.fz; have K2' := Lib.hid K2; clear K2; have K2 := K2'.out; clear K2')
      refine bodyPost_ret (v := .tuple #[.slice none 0 0, errV (3, 0)]) (by simp only [results, Tryz.results96]; go_simp) rfl ⟨?_, .inl ⟨_, HV.out, rfl⟩⟩
      ((repeat' (first | (with_reducible exact Below.refl _ _) | (with_reducible assumption) | (with_reducible refine Below.setCell ?_ ?_ _) | (with_reducible refine Below.alloc ?_ ?_ _) | (with_reducible refine Below.drew ?_) | (with_reducible refine below_drewN ?_ _) | (with_reducible refine Below.step (by with_reducible assumption) ?_ ?_))) <;> (first | omega | (simp; done) | (simp; omega)))
    | true =>
      rw [hi] at HI
      cases hl : listE l x.body x.stop with
      | error er =>
        have HL : Hid (∀ W, IsB W v l → Calls Tryz.prog 130 #[v, .int .i64 x.body, .int .i64 x.stop] W (RetB (.tuple #[.slice none 0 0, errV er]) W)) := by
          intro W h
          refine (list_any v l x.body x.stop W h hL).mono ?_
          rintro e w' ⟨hb, ⟨er', h1, rfl⟩ | ⟨xs, o, h1, _⟩⟩
          · rw [hl] at h1; injection h1 with h1; subst h1; exact ⟨rfl, hb⟩
          · rw [hl] at h1; cases h1
        have HV : Hid (partsE l c n = .error er) := by show partsE l c n = _; unfold partsE; rw [hr]; simp [hi, hl]
        clear hw hr hi hl
        simp only [errV] at HL
        go_enter Tryz.func96, Tryz.ntmps96
        go_wp2_with (first | (go_at_call 109; (with_reducible refine (HR.out _ (HB.out.alloc _)).mono ?_); rintro e w1 ⟨rfl, hbw1⟩; obtain ⟨hcw1, hfw1⟩ := bcell hbw1; have hzw1 := hbw1.size; (try simp at hzw1); have hyw1 : w.heap.size < w1.heap.size := (by omega); (try have hyaw1 : w.heap.size + 1 < w1.heap.size := (by omega)); (try have hybw1 : w.heap.size + 2 < w1.heap.size := (by omega)); (try have hycw1 : w.heap.size + 3 < w1.heap.size := (by omega)); (try have hydw1 : w.heap.size + 4 < w1.heap.size := (by omega)); clear hzw1); have K1 := Blk.call (Blk.new w 38 #[.int .i64 0, .int .i64 0]) hbw1; have lK1 := K1.lt; have qK1 := K1.q; have rK1 := K1.fz; have K1' := Lib.hid K1; clear K1; have K1 := K1'.out; clear K1'; have HB1 := Lib.hid ((HB.out.alloc _).below hbw1) | (go_at_call 110; (with_reducible refine (HI.out _).mono ?_); rintro e w2 ⟨rfl, hbw2⟩; obtain ⟨hcw2, hfw2⟩ := bcell hbw2; have hzw2 := hbw2.size; (try simp at hzw2); have hyw2 : w.heap.size < w2.heap.size := (by omega); (try have hyaw2 : w.heap.size + 1 < w2.heap.size := (by omega)); (try have hybw2 : w.heap.size + 2 < w2.heap.size := (by omega)); (try have hycw2 : w.heap.size + 3 < w2.heap.size := (by omega)); (try have hydw2 : w.heap.size + 4 < w2.heap.size := (by omega)); clear hzw2); have K2 := Blk.call ((K1.alloc _).alloc _) hbw2; have lK2 := K2.lt; have qK2 := K2.q; have rK2 := K2.fz; have K2' := Lib.hid K2; clear K2; have K2 := K2'.out; clear K2'; have K2X := Blk.call ((Blk.new w1 118 #[.int .i64 x.cls, .int .i64 x.num, .bool x.con, .int .i64 x.start, .int .i64 x.body, .int .i64 x.stop]).alloc _) hbw2; have lK2X := K2X.lt; have qK2X := K2X.q; have rK2X := K2X.fz; have K2X' := Lib.hid K2X; clear K2X; have K2X := K2X'.out; clear K2X' | (go_at_call 130; (with_reducible refine (HL.out _ ((((HB1.out.alloc _).alloc _).below hbw2))).mono ?_); rintro e w3 ⟨rfl, hbw3⟩; obtain ⟨hcw3, hfw3⟩ := bcell hbw3; have hzw3 := hbw3.size; (try simp at hzw3); have hyw3 : w.heap.size < w3.heap.size := (by omega); (try have hyaw3 : w.heap.size + 1 < w3.heap.size := (by omega)); (try have hybw3 : w.heap.size + 2 < w3.heap.size := (by omega)); (try have hycw3 : w.heap.size + 3 < w3.heap.size := (by omega)); (try have hydw3 : w.heap.size + 4 < w3.heap.size := (by omega)); clear hzw3); have K3 := Blk.call (K2) hbw3; have lK3 := K3.lt; have qK3 := K3.q; have rK3 := K3.fz; have K3' := Lib.hid K3; clear K3; have K3 := K3'.out; clear K3')
        refine bodyPost_ret (v := .tuple #[.slice none 0 0, errV er]) (by simp only [results, Tryz.results96]; go_simp) rfl ⟨?_, .inl ⟨_, HV.out, rfl⟩⟩
        ((repeat' (first | (with_reducible exact Below.refl _ _) | (with_reducible assumption) | (with_reducible refine Below.setCell ?_ ?_ _) | (with_reducible refine Below.alloc ?_ ?_ _) | (with_reducible refine Below.drew ?_) | (with_reducible refine below_drewN ?_ _) | (with_reducible refine Below.step (by with_reducible assumption) ?_ ?_))) <;> (first | omega | (simp; done) | (simp; omega)))
      | ok xs =>
        have HL : Hid (∀ W, IsB W v l → Calls Tryz.prog 130 #[v, .int .i64 x.body, .int .i64 x.stop] W (fun e w' => ∃ o, e = .returned (.tuple #[o, errV (0, 0)]) ∧ w'.ownsRow W.heap.size 118 6 o xs.length (elCells xs) ∧ Below W.heap.size W w')) := by
          intro W h
          refine (list_any v l x.body x.stop W h hL).mono ?_
          rintro e w' ⟨hb, ⟨er', h1, rfl⟩ | ⟨xs', o, h1, rfl, h2⟩⟩
          · rw [hl] at h1; cases h1
          · rw [hl] at h1; injection h1 with h1; subst h1; exact ⟨o, rfl, h2, hb⟩
        have HV : Hid (partsE l c n = .ok xs) := by show partsE l c n = _; unfold partsE; rw [hr]; simp [hi, hl]
        clear hw hr hi hl
        simp only [errV] at HL
        go_enter Tryz.func96, Tryz.ntmps96
        go_wp2_with (first | (go_at_call 109; (with_reducible refine (HR.out _ (HB.out.alloc _)).mono ?_); rintro e w1 ⟨rfl, hbw1⟩; obtain ⟨hcw1, hfw1⟩ := bcell hbw1; have hzw1 := hbw1.size; (try simp at hzw1); have hyw1 : w.heap.size < w1.heap.size := (by omega); (try have hyaw1 : w.heap.size + 1 < w1.heap.size := (by omega)); (try have hybw1 : w.heap.size + 2 < w1.heap.size := (by omega)); (try have hycw1 : w.heap.size + 3 < w1.heap.size := (by omega)); (try have hydw1 : w.heap.size + 4 < w1.heap.size := (by omega)); clear hzw1); have K1 := Blk.call (Blk.new w 38 #[.int .i64 0, .int .i64 0]) hbw1; have lK1 := K1.lt; have qK1 := K1.q; have rK1 := K1.fz; have K1' := Lib.hid K1; clear K1; have K1 := K1'.out; clear K1'; have HB1 := Lib.hid ((HB.out.alloc _).below hbw1) | (go_at_call 110; (with_reducible refine (HI.out _).mono ?_); rintro e w2 ⟨rfl, hbw2⟩; obtain ⟨hcw2, hfw2⟩ := bcell hbw2; have hzw2 := hbw2.size; (try simp at hzw2); have hyw2 : w.heap.size < w2.heap.size := (by omega); (try have hyaw2 : w.heap.size + 1 < w2.heap.size := (by omega)); (try have hybw2 : w.heap.size + 2 < w2.heap.size := (by omega)); (try have hycw2 : w.heap.size + 3 < w2.heap.size := (by omega)); (try have hydw2 : w.heap.size + 4 < w2.heap.size := (by omega)); clear hzw2); have K2 := Blk.call ((K1.alloc _).alloc _) hbw2; have lK2 := K2.lt; have qK2 := K2.q; have rK2 := K2.fz; have K2' := Lib.hid K2; clear K2; have K2 := K2'.out; clear K2'; have K2X := Blk.call ((Blk.new w1 118 #[.int .i64 x.cls, .int .i64 x.num, .bool x.con, .int .i64 x.start, .int .i64 x.body, .int .i64 x.stop]).alloc _) hbw2; have lK2X := K2X.lt; have qK2X := K2X.q; have rK2X := K2X.fz; have K2X' := Lib.hid K2X; clear K2X; have K2X := K2X'.out; clear K2X' | ((go_at_call 130); (with_reducible refine (HL.out _ ((((HB1.out.alloc _).alloc _).below hbw2))).mono ?_); rintro e w3 ⟨o, rfl, hown, hbw3⟩; obtain ⟨hcw3, hfw3⟩ := bcell hbw3; have hzw3 := hbw3.size; (try simp at hzw3); have hyw3 : w.heap.size < w3.heap.size := (by omega); (try have hyaw3 : w.heap.size + 1 < w3.heap.size := (by omega)); (try have hybw3 : w.heap.size + 2 < w3.heap.size := (by omega)); (try have hycw3 : w.heap.size + 3 < w3.heap.size := (by omega)); (try have hydw3 : w.heap.size + 4 < w3.heap.size := (by omega)); clear hzw3; have K3 := Blk.call (K2) hbw3; have lK3 := K3.lt; have qK3 := K3.q; have rK3 := K3.fz; have K3' := Lib.hid K3; clear K3; have K3 := K3'.out; clear K3'; have HO := Lib.hid hown; clear hown))
        refine bodyPost_ret (v := .tuple #[o, errV (0, 0)]) (by simp only [results, Tryz.results96]; go_simp) rfl ⟨?_, .inr ⟨xs, o, HV.out, rfl, ?_⟩⟩
        · ((repeat' (first | (with_reducible exact Below.refl _ _) | (with_reducible assumption) | (with_reducible refine Below.setCell ?_ ?_ _) | (with_reducible refine Below.alloc ?_ ?_ _) | (with_reducible refine Below.drew ?_) | (with_reducible refine below_drewN ?_ _) | (with_reducible refine Below.step (by with_reducible assumption) ?_ ?_))) <;> (first | omega | (simp; done) | (simp; omega)))
        · exact ownsRow_more (ownsRow_setCell_below (ownsRow_setCell_below HO.out hyw2 _) hyw2 _) (by omega)
end Go.Proofs.YtjjkimjdmpeddaaGreatDoor
end
