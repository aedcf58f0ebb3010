/- The parts AttrP, AttrQ of one proof, one behind the other. -/
import Derived.Test.YtejmkefdcjachaaGreatDoorJ34
import Derived.Test.YtejmkefdcjachaaGreatDoorJ22

/- Walk over attribute.Parse. -/
section
set_option linter.unusedSimpArgs false
set_option linter.unusedVariables false
namespace Go.Proofs.YtejmkefdcjachaaGreatDoor
open Go.RowKit Go.Cr

theorem partsE_err {l : List UInt8} {c n ec eo : Int} (h : partsE l c n = .error (ec, eo)) : 0 < ec ∧ 0 ≤ eo ∧ eo ≤ l.length := by
  unfold partsE at h
  split at h
  · rename_i er he
    injection h with h
    subst h
    have := oneE_err he
    omega
  · rename_i x hx
    have hb := oneE_ok hx
    split at h
    · unfold listE at h
      split at h
      · injection h with h; injection h with h1 h2; omega
      · have := listAcc_err _ (by omega) (by omega) (by omega) h
        omega
    · injection h with h; injection h with h1 h2; omega

def RetPE (L : Nat) (w : World) (e : Ending) (w' : World) : Prop := Below w.heap.size w w' ∧ ∃ c o : Int, 0 < c ∧ 0 ≤ o ∧ o ≤ L ∧ e = .returned (.tuple #[.agg #[.string ⟨#[]⟩, .slice none 0 0], errV (c, o)])
def RetPB (r : Option (List UInt8 × List UInt8)) (L : Nat) (w : World) (e : Ending) (w' : World) : Prop := match r with
  | none => RetPE L w e w'
  | some (s, l) => AtY s l (errV (0, 0)) w e w'

set_option maxRecDepth 100000 in
set_option maxHeartbeats 2000000 in
theorem attFail (c o : Int) (w : World) : Calls Tryz.prog 53 #[.int .i64 c, .int .i64 o] w (RetB (.tuple #[.agg #[.string ⟨#[]⟩, .slice none 0 0], errV (c, o)]) w) := by
  go_enter Tryz.func53, Tryz.ntmps53
  go_wp2_with fail
  (refine bodyPost_retB (v := .tuple #[.agg #[.string ⟨#[]⟩, .slice none 0 0], errV (c, o)]) (by (simp only [results, Tryz.results53]; try go_simp)) rfl rfl ?_; ((repeat' (first | (with_reducible exact Below.refl _ _) | (with_reducible assumption) | (with_reducible refine Below.setCell ?_ ?_ _) | (with_reducible refine Below.alloc ?_ ?_ _) | (with_reducible refine Below.drew ?_) | (with_reducible refine below_drewN ?_ _) | (with_reducible refine Below.step (by with_reducible assumption) ?_ ?_))) <;> (first | omega | (simp; done) | (simp; omega))))

set_option maxRecDepth 100000 in
set_option maxHeartbeats 4000000 in
theorem attParse_err (v : Value) (b : List UInt8) (w : World) (ec eo : Int) (hv : IsB w v b) (hL : b.length ≤ 100000) (hp : partsE b 0 16 = .error (ec, eo)) :
    Calls Tryz.prog 29 #[v] w (RetPE b.length w) := by
  obtain ⟨h1, h2, h3⟩ := partsE_err hp
  have HP : Hid (∀ W, IsB W v b → Calls Tryz.prog 54 #[v, .int .i64 0, .int .i64 16] W (RetB (.tuple #[.slice none 0 0, errV (ec, eo)]) W)) := fun W h => (parts_any v b 0 16 W h (by omega)).mono fun e w' hh => by
    rw [hp] at hh
    obtain ⟨hb, ⟨er, he, h⟩ | ⟨xs, o, he, _⟩⟩ := hh
    · injection he with he; subst he; exact ⟨h, hb⟩
    · cases he
  have HV := Lib.hid hv
  have HF := Lib.hid attFail
  simp only [errV] at HP HF
  have hn : (ec == 0) = false := beq_eq_false_iff_ne.2 (by omega)
  have hn' : (ec != 0) = true := by simp; omega
  clear hv hp
  go_enter Tryz.func29, Tryz.ntmps29
  go_wp2_with (first | ((go_at_call 54); (with_reducible refine (HP.out _ ((HV.out.alloc _).alloc _)).mono ?_); rintro e w1 ⟨rfl, hbw1⟩; obtain ⟨hcw1, hfw1⟩ := bcell hbw1; have hzw1 := hbw1.size; (try simp at hzw1); have hyw1 : w.heap.size < w1.heap.size := (by omega); (try have hyaw1 : w.heap.size + 1 < w1.heap.size := (by omega)); (try have hybw1 : w.heap.size + 2 < w1.heap.size := (by omega)); (try have hycw1 : w.heap.size + 3 < w1.heap.size := (by omega)); (try have hydw1 : w.heap.size + 4 < w1.heap.size := (by omega)); clear hzw1; have K0 := Blk.call ((Blk.new w 37 #[.string ⟨#[]⟩, .slice none 0 0]).alloc (.cells #[.int .i64 0, .int .i64 0] 41)) hbw1; have lK0 := K0.lt; have qK0 := K0.q; have rK0 := K0.fz; have K0' := Lib.hid K0; clear K0; have K0 := K0'.out; clear K0'; have K1 := Blk.call (blk_in (t := 41) (cs := #[.int .i64 0, .int .i64 0]) (w := w.alloc (.cells #[.string ⟨#[]⟩, .slice none 0 0] 37)) (g := w.heap.size + 1) (by simp)) hbw1; have lK1 := K1.lt; have qK1 := K1.q; have rK1 := K1.fz; have K1' := Lib.hid K1; clear K1; have K1 := K1'.out; clear K1') | ((go_at_call 53); (with_reducible refine (HF.out _ _ _).mono ?_); rintro e w2 ⟨rfl, hbw2⟩; have J0 := Blk.call (K0.alloc _) hbw2; have lJ0 := J0.lt; have qJ0 := J0.q; have rJ0 := J0.fz; have J0' := Lib.hid J0; clear J0; have J0 := J0'.out; clear J0'; have J1 := Blk.call (K1.alloc _) hbw2; have lJ1 := J1.lt; have qJ1 := J1.q; have rJ1 := J1.fz; have J1' := Lib.hid J1; clear J1; have J1 := J1'.out; clear J1'))
  refine bodyPost_ret (v := .tuple #[.agg #[.string ⟨#[]⟩, .slice none 0 0], errV (ec, eo)]) (by simp only [results, Tryz.results29]; go_simp) rfl ?_
  have s1 := hbw1.size; have s2 := hbw2.size
  simp at s1 s2
  have b1 : Below w.heap.size w w1 := (((Below.refl _ w).alloc (Nat.le_refl _) (.cells #[.string ⟨#[]⟩, .slice none 0 0] 37)).alloc (by simp) (.cells #[.int .i64 0, .int .i64 0] 41)).trans (hbw1.mono (by simp; omega))
  have b2 : Below w.heap.size w w2 := (b1.alloc (by omega) _).trans (hbw2.mono (by simp; omega))
  exact ⟨by ((repeat' (first | (with_reducible exact Below.refl _ _) | (with_reducible assumption) | (with_reducible refine Below.setCell ?_ ?_ _) | (with_reducible refine Below.alloc ?_ ?_ _) | (with_reducible refine Below.drew ?_) | (with_reducible refine below_drewN ?_ _) | (with_reducible refine Below.step (by with_reducible assumption) ?_ ?_))) <;> (first | omega | (simp; done) | (simp; omega))), ec, eo, h1, h2, h3, rfl⟩

/-- What Parts leaves where there are parts. -/
def RetPs (xs : List Elem) (w : World) (e : Ending) (w' : World) : Prop := ∃ A k, e = .returned (.tuple #[.slice A xs.length k, errV (0, 0)]) ∧ IsRS (fun b => w.heap.size ≤ b) w' (.slice A xs.length k) 6 xs.length (elCells xs) ∧ Below w.heap.size w w'
theorem parts_ok {v : Value} {b : List UInt8} {c n : Int} {xs : List Elem} (hL : b.length ≤ 100000) (hp : partsE b c n = .ok xs) (W : World) (h : IsB W v b) : Calls Tryz.prog 54 #[v, .int .i64 c, .int .i64 n] W (RetPs xs W) :=
  (parts_any v b c n W h (by omega)).mono fun e w' hh => by
    rw [hp] at hh
    obtain ⟨hb, ⟨er, he, h⟩ | ⟨xs', o, he, h1, h2⟩⟩ := hh
    · cases he
    · injection he with he; subst he
      obtain ⟨A, k, rfl⟩ := own_slice h2
      exact ⟨A, k, h1, IsRS.of_own h2, hb⟩
theorem rs_at {S : Nat → Prop} {w : World} {v : Value} {k n : Nat} {xs : List Value} {t e : TypeId} (h : IsRS S w v k n xs) (ht : Tryz.prog.underlying t = some (.slice e)) (hs : ∀ W, (sizeOf e).run Tryz.prog W = .ok k W) (kd : IntKind) {i : Int} (h0 : 0 ≤ i) (h1 : i < n) :
    ∃ b o, (∀ W : World, (Instr.indexAt t v (.int kd i)).run Tryz.prog W = .ok (.pointer (some ⟨b, o, none⟩)) W) ∧ S b ∧ b < w.heap.size ∧ ∀ j x, xs[i.toNat * k + j]? = some x → w.cell? ⟨b, o + j, none⟩ = some x := by
  obtain ⟨A, c, rfl, h2, h3, h4, h5⟩ := h
  obtain ⟨b, off, rfl, hb, hS, hc⟩ := h5 (by omega)
  refine ⟨b, off + i.toNat * k, fun W => ?_, hS, hb, fun j x hj => by rw [Nat.add_assoc]; exact hc _ _ hj⟩
  have hi : (0 ≤ i ∧ i < (n : Int)) := ⟨h0, h1⟩
  simp only [Instr.indexAt, asIntOf, Sem.run_bind, Sem.run_pure, Result.andThen, run_underlying ht, if_pos hi, hs]
  simp [Addr.add]
theorem elc_at {xs : List Elem} {b o : Nat} {w : World} {k : Nat} (hk : k < xs.length) {x : Elem} (hx : xs[k] = x) (h : ∀ j y, (elCells xs)[k * 6 + j]? = some y → w.cell? ⟨b, o + j, none⟩ = some y) :
    w.cell? ⟨b, o, none⟩ = some (.int .i64 x.cls) ∧ w.cell? ⟨b, o + 1, none⟩ = some (.int .i64 x.num) ∧ w.cell? ⟨b, o + 2, none⟩ = some (.bool x.con) ∧ w.cell? ⟨b, o + 3, none⟩ = some (.int .i64 x.start) ∧ w.cell? ⟨b, o + 4, none⟩ = some (.int .i64 x.body) ∧ w.cell? ⟨b, o + 5, none⟩ = some (.int .i64 x.stop) := by
  subst hx
  exact ⟨h 0 _ (elCells_at xs k hk 0 (by omega)), h 1 _ (elCells_at xs k hk 1 (by omega)), h 2 _ (elCells_at xs k hk 2 (by omega)), h 3 _ (elCells_at xs k hk 3 (by omega)), h 4 _ (elCells_at xs k hk 4 (by omega)), h 5 _ (elCells_at xs k hk 5 (by omega))⟩

set_option maxRecDepth 100000 in
set_option maxHeartbeats 4000000 in
theorem attParse_few (v : Value) (b : List UInt8) (w : World) (xs : List Elem) (hv : IsB w v b) (hL : b.length ≤ 100000) (hp : partsE b 0 16 = .ok xs) (hn2 : xs.length < 2) :
    Calls Tryz.prog 29 #[v] w (RetPE b.length w) := by
  have hlen := hv.len ulB
  have HP := Lib.hid (fun W h => parts_ok (v := v) hL hp W h)
  have HV := Lib.hid hv
  have HF := Lib.hid attFail
  simp only [errV, RetPs] at HP HF
  have hnI : (xs.length : Int) < 2 := by omega
  have hd : decide (xs.length < 2) = true := decide_eq_true hn2
  clear hv hp
  go_enter Tryz.func29, Tryz.ntmps29
  go_wp2_with (first | ((go_at_call 54); (with_reducible refine (HP.out _ ((HV.out.alloc _).alloc _)).mono ?_); rintro e w1 ⟨A5, k5, rfl, hr, hbw1⟩; obtain ⟨hcw1, hfw1⟩ := bcell hbw1; have hzw1 := hbw1.size; (try simp at hzw1); have hyw1 : w.heap.size < w1.heap.size := (by omega); (try have hyaw1 : w.heap.size + 1 < w1.heap.size := (by omega)); (try have hybw1 : w.heap.size + 2 < w1.heap.size := (by omega)); (try have hycw1 : w.heap.size + 3 < w1.heap.size := (by omega)); (try have hydw1 : w.heap.size + 4 < w1.heap.size := (by omega)); clear hzw1; have K0 := Blk.call ((Blk.new w 37 #[.string ⟨#[]⟩, .slice none 0 0]).alloc (.cells #[.int .i64 0, .int .i64 0] 41)) hbw1; have lK0 := K0.lt; have qK0 := K0.q; have rK0 := K0.fz; have K0' := Lib.hid K0; clear K0; have K0 := K0'.out; clear K0'; have K1 := Blk.call (blk_in (t := 41) (cs := #[.int .i64 0, .int .i64 0]) (w := w.alloc (.cells #[.string ⟨#[]⟩, .slice none 0 0] 37)) (g := w.heap.size + 1) (by simp)) hbw1; have lK1 := K1.lt; have qK1 := K1.q; have rK1 := K1.fz; have K1' := Lib.hid K1; clear K1; have K1 := K1'.out; clear K1'; have hl5 := hr.isR.len (P := Tryz.prog) ulEl; clear hr) | ((go_at_call 53); (with_reducible refine (HF.out _ _ _).mono ?_); rintro e w2 ⟨rfl, hbw2⟩; have J0 := Blk.call (K0.alloc _) hbw2; have lJ0 := J0.lt; have qJ0 := J0.q; have rJ0 := J0.fz; have J0' := Lib.hid J0; clear J0; have J0 := J0'.out; clear J0'; have J1 := Blk.call (K1.alloc _) hbw2; have lJ1 := J1.lt; have qJ1 := J1.q; have rJ1 := J1.fz; have J1' := Lib.hid J1; clear J1; have J1 := J1'.out; clear J1'))
  refine bodyPost_ret (v := .tuple #[.agg #[.string ⟨#[]⟩, .slice none 0 0], errV (1, b.length)]) (by simp only [results, Tryz.results29]; go_simp) rfl ?_
  have s1 := hbw1.size; have s2 := hbw2.size
  simp at s1 s2
  have b1 : Below w.heap.size w w1 := (((Below.refl _ w).alloc (Nat.le_refl _) (.cells #[.string ⟨#[]⟩, .slice none 0 0] 37)).alloc (by simp) (.cells #[.int .i64 0, .int .i64 0] 41)).trans (hbw1.mono (by simp; omega))
  have b2 : Below w.heap.size w w2 := (b1.alloc (by omega) _).trans (hbw2.mono (by simp; omega))
  exact ⟨by ((repeat' (first | (with_reducible exact Below.refl _ _) | (with_reducible assumption) | (with_reducible refine Below.setCell ?_ ?_ _) | (with_reducible refine Below.alloc ?_ ?_ _) | (with_reducible refine Below.drew ?_) | (with_reducible refine below_drewN ?_ _) | (with_reducible refine Below.step (by with_reducible assumption) ?_ ?_))) <;> (first | omega | (simp; done) | (simp; omega))), 1, b.length, by omega, by omega, by omega, rfl⟩

set_option maxRecDepth 100000 in
set_option maxHeartbeats 4000000 in
theorem attParse_many (v : Value) (b : List UInt8) (w : World) (xs : List Elem) (hv : IsB w v b) (hL : b.length ≤ 100000) (hp : partsE b 0 16 = .ok xs) (hn2 : 2 < xs.length) :
    Calls Tryz.prog 29 #[v] w (RetPE b.length w) := by
  have hlen := hv.len ulB
  have hall := (partsE_ok hp).2.2.2.2.2
  obtain ⟨x, hx⟩ : ∃ x, xs[2] = x := ⟨_, rfl⟩
  obtain ⟨x0, x1, x2, x3, x4⟩ := hall x (hx ▸ List.getElem_mem hn2)
  clear x4
  have HX := Lib.hid hx
  have HP := Lib.hid (fun W h => parts_ok (v := v) hL hp W h)
  have HV := Lib.hid hv
  have HF := Lib.hid attFail
  simp only [errV, RetPs] at HP HF
  have hnI : 2 < (xs.length : Int) := by omega
  have hd : decide (xs.length < 2) = false := decide_eq_false (by omega)
  have hd2 : decide (2 < xs.length) = true := decide_eq_true hn2
  obtain ⟨xc, xn, xk, xs', xb, xe⟩ := x
  simp only at x0 x1 x2 x3
  clear hv hp hall hx
  go_enter Tryz.func29, Tryz.ntmps29
  go_wp2_with (first | ((go_at_call 54); (with_reducible refine (HP.out _ ((HV.out.alloc _).alloc _)).mono ?_); rintro e w1 ⟨A5, k5, rfl, hr, hbw1⟩; obtain ⟨hcw1, hfw1⟩ := bcell hbw1; have hzw1 := hbw1.size; (try simp at hzw1); have hyw1 : w.heap.size < w1.heap.size := (by omega); (try have hyaw1 : w.heap.size + 1 < w1.heap.size := (by omega)); (try have hybw1 : w.heap.size + 2 < w1.heap.size := (by omega)); (try have hycw1 : w.heap.size + 3 < w1.heap.size := (by omega)); (try have hydw1 : w.heap.size + 4 < w1.heap.size := (by omega)); clear hzw1; have K0 := Blk.call ((Blk.new w 37 #[.string ⟨#[]⟩, .slice none 0 0]).alloc (.cells #[.int .i64 0, .int .i64 0] 41)) hbw1; have lK0 := K0.lt; have qK0 := K0.q; have rK0 := K0.fz; have K0' := Lib.hid K0; clear K0; have K0 := K0'.out; clear K0'; have K1 := Blk.call (blk_in (t := 41) (cs := #[.int .i64 0, .int .i64 0]) (w := w.alloc (.cells #[.string ⟨#[]⟩, .slice none 0 0] 37)) (g := w.heap.size + 1) (by simp)) hbw1; have lK1 := K1.lt; have qK1 := K1.q; have rK1 := K1.fz; have K1' := Lib.hid K1; clear K1; have K1 := K1'.out; clear K1'; have hl5 := hr.isR.len (P := Tryz.prog) ulEl; obtain ⟨b2, o2, hi2, hbl2, hc2⟩ := hr.isR.at_ (P := Tryz.prog) ulEl szEl .i64 (i := 2) (by omega) (by omega); obtain ⟨_, _, _, p3, _, _⟩ := elc_at (k := 2) hn2 HX.out hc2; simp only at p3; clear hr hc2) | ((go_at_call 53); (with_reducible refine (HF.out _ _ _).mono ?_); rintro e w2 ⟨rfl, hbw2⟩; have J0 := Blk.call (K0.alloc _) hbw2; have lJ0 := J0.lt; have qJ0 := J0.q; have rJ0 := J0.fz; have J0' := Lib.hid J0; clear J0; have J0 := J0'.out; clear J0'; have J1 := Blk.call (K1.alloc _) hbw2; have lJ1 := J1.lt; have qJ1 := J1.q; have rJ1 := J1.fz; have J1' := Lib.hid J1; clear J1; have J1 := J1'.out; clear J1'))
  refine bodyPost_ret (v := .tuple #[.agg #[.string ⟨#[]⟩, .slice none 0 0], errV (2, xs')]) (by simp only [results, Tryz.results29]; go_simp) rfl ?_
  have s1 := hbw1.size; have s2 := hbw2.size
  simp at s1 s2
  have b1 : Below w.heap.size w w1 := (((Below.refl _ w).alloc (Nat.le_refl _) (.cells #[.string ⟨#[]⟩, .slice none 0 0] 37)).alloc (by simp) (.cells #[.int .i64 0, .int .i64 0] 41)).trans (hbw1.mono (by simp; omega))
  have b2 : Below w.heap.size w w2 := (b1.alloc (by omega) _).trans (hbw2.mono (by simp; omega))
  exact ⟨by ((repeat' (first | (with_reducible exact Below.refl _ _) | (with_reducible assumption) | (with_reducible refine Below.setCell ?_ ?_ _) | (with_reducible refine Below.alloc ?_ ?_ _) | (with_reducible refine Below.drew ?_) | (with_reducible refine below_drewN ?_ _) | (with_reducible refine Below.step (by with_reducible assumption) ?_ ?_))) <;> (first | omega | (simp; done) | (simp; omega))), 2, xs', by omega, x0, by omega, rfl⟩

theorem parts_two {v : Value} {b : List UInt8} {c n : Int} {x y : Elem} (hL : b.length ≤ 100000) (hp : partsE b c n = .ok [x, y]) (W : World) (h : IsB W v b) : Calls Tryz.prog 54 #[v, .int .i64 c, .int .i64 n] W
    (fun e w' => ∃ A k, e = .returned (.tuple #[.slice A 2 k, .agg #[.int .i64 0, .int .i64 0]]) ∧ IsRS (fun b => W.heap.size ≤ b) w' (.slice A 2 k) 6 2 (elCells [x, y]) ∧ Below W.heap.size W w') := parts_ok hL hp W h
theorem two_at {v : Value} {w : World} {x y : Elem} {B : Nat} (hr : IsRS (fun b => B ≤ b) w v 6 2 (elCells [x, y])) :
    (∃ b o, (∀ W : World, (Instr.indexAt 78 v (.int .i64 0)).run Tryz.prog W = .ok (.pointer (some ⟨b, o, none⟩)) W) ∧ B ≤ b ∧ b < w.heap.size ∧ w.cell? ⟨b, o, none⟩ = some (.int .i64 x.cls) ∧ w.cell? ⟨b, o + 1, none⟩ = some (.int .i64 x.num) ∧ w.cell? ⟨b, o + 2, none⟩ = some (.bool x.con) ∧ w.cell? ⟨b, o + 3, none⟩ = some (.int .i64 x.start) ∧ w.cell? ⟨b, o + 4, none⟩ = some (.int .i64 x.body) ∧ w.cell? ⟨b, o + 5, none⟩ = some (.int .i64 x.stop)) ∧
    (∃ b o, (∀ W : World, (Instr.indexAt 78 v (.int .i64 1)).run Tryz.prog W = .ok (.pointer (some ⟨b, o, none⟩)) W) ∧ B ≤ b ∧ b < w.heap.size ∧ w.cell? ⟨b, o, none⟩ = some (.int .i64 y.cls) ∧ w.cell? ⟨b, o + 1, none⟩ = some (.int .i64 y.num) ∧ w.cell? ⟨b, o + 2, none⟩ = some (.bool y.con) ∧ w.cell? ⟨b, o + 3, none⟩ = some (.int .i64 y.start) ∧ w.cell? ⟨b, o + 4, none⟩ = some (.int .i64 y.body) ∧ w.cell? ⟨b, o + 5, none⟩ = some (.int .i64 y.stop)) := by
  obtain ⟨b0, o0, hi0, hB0, hbl0, hc0⟩ := rs_at hr ulEl szEl .i64 (i := 0) (by omega) (by omega)
  obtain ⟨b1, o1, hi1, hB1, hbl1, hc1⟩ := rs_at hr ulEl szEl .i64 (i := 1) (by omega) (by omega)
  exact ⟨⟨b0, o0, hi0, hB0, hbl0, elc_at (xs := [x, y]) (k := 0) (by simp) rfl hc0⟩, ⟨b1, o1, hi1, hB1, hbl1, elc_at (xs := [x, y]) (k := 1) (by simp) rfl hc1⟩⟩

set_option maxRecDepth 100000 in
set_option maxHeartbeats 4000000 in
theorem attParse_tag (v : Value) (b : List UInt8) (w : World) (x y : Elem) (hv : IsB w v b) (hL : b.length ≤ 100000) (hp : partsE b 0 16 = .ok [x, y]) (his : isE x 0 false 6 = false) :
    Calls Tryz.prog 29 #[v] w (RetPE b.length w) := by
  have hlen := hv.len ulB
  have hall := (partsE_ok hp).2.2.2.2.2
  obtain ⟨x0, x1, x2, x3, x4⟩ := hall x (by simp)
  obtain ⟨y0, y1, y2, y3, y4⟩ := hall y (by simp)
  clear x4 y4
  have HP := Lib.hid (fun W h => parts_two (v := v) hL hp W h)
  have HV := Lib.hid hv
  have HF := Lib.hid attFail
  simp only [errV] at HF
  have HI : Hid (∀ W, Calls Tryz.prog 55 #[elV x, .int .i64 0, .bool false, .int .i64 6] W (RetB (.bool false) W)) := fun W => by have := is_any x 0 6 false W; rwa [his] at this
  obtain ⟨xc, xn, xk, xs', xb, xe⟩ := x
  obtain ⟨yc, yn, yk, ys', yb, ye⟩ := y
  simp only at x0 x1 x2 x3 y0 y1 y2 y3
  simp only [elV] at HI
  clear hv hp hall his
  go_enter Tryz.func29, Tryz.ntmps29
  go_wp2_with (first | ((go_at_call 54); (with_reducible refine (HP.out _ ((HV.out.alloc _).alloc _)).mono ?_); rintro e w1 ⟨A5, k5, rfl, hr, hbw1⟩; obtain ⟨hcw1, hfw1⟩ := bcell hbw1; have hzw1 := hbw1.size; (try simp at hzw1); have hyw1 : w.heap.size < w1.heap.size := (by omega); (try have hyaw1 : w.heap.size + 1 < w1.heap.size := (by omega)); (try have hybw1 : w.heap.size + 2 < w1.heap.size := (by omega)); (try have hycw1 : w.heap.size + 3 < w1.heap.size := (by omega)); (try have hydw1 : w.heap.size + 4 < w1.heap.size := (by omega)); clear hzw1; have K0 := Blk.call ((Blk.new w 37 #[.string ⟨#[]⟩, .slice none 0 0]).alloc (.cells #[.int .i64 0, .int .i64 0] 41)) hbw1; have lK0 := K0.lt; have qK0 := K0.q; have rK0 := K0.fz; have K0' := Lib.hid K0; clear K0; have K0 := K0'.out; clear K0'; have K1 := Blk.call (blk_in (t := 41) (cs := #[.int .i64 0, .int .i64 0]) (w := w.alloc (.cells #[.string ⟨#[]⟩, .slice none 0 0] 37)) (g := w.heap.size + 1) (by simp)) hbw1; have lK1 := K1.lt; have qK1 := K1.q; have rK1 := K1.fz; have K1' := Lib.hid K1; clear K1; have K1 := K1'.out; clear K1'; have hl5 := hr.isR.len (P := Tryz.prog) ulEl; obtain ⟨⟨b0, o0, hi0, hge0, hbl0, p00, p01, p02, p03, p04, p05⟩, ⟨b1, o1, hi1, hge1, hbl1, p10, p11, p12, p13, p14, p15⟩⟩ := two_at hr; clear hr; simp only at p00 p01 p02 p03 p04 p05 p10 p11 p12 p13 p14 p15) | ((go_at_call 55); (with_reducible refine (HI.out _).mono ?_); rintro e w2 ⟨rfl, hbw2⟩; have KA := Blk.call (K0.alloc _) hbw2; have lKA := KA.lt; have qKA := KA.q; have rKA := KA.fz; have KA' := Lib.hid KA; clear KA; have KA := KA'.out; clear KA'; have KB := Blk.call (K1.alloc _) hbw2; have lKB := KB.lt; have qKB := KB.q; have rKB := KB.fz; have KB' := Lib.hid KB; clear KB; have KB := KB'.out; clear KB'; obtain ⟨hcw2, hfw2⟩ := bcell hbw2) | ((go_at_call 53); (with_reducible refine (HF.out _ _ _).mono ?_); rintro e w3 ⟨rfl, hbw3⟩; have J0 := Blk.call (KA) hbw3; have lJ0 := J0.lt; have qJ0 := J0.q; have rJ0 := J0.fz; have J0' := Lib.hid J0; clear J0; have J0 := J0'.out; clear J0'; have J1 := Blk.call (KB) hbw3; have lJ1 := J1.lt; have qJ1 := J1.q; have rJ1 := J1.fz; have J1' := Lib.hid J1; clear J1; have J1 := J1'.out; clear J1'))
  refine bodyPost_ret (v := .tuple #[.agg #[.string ⟨#[]⟩, .slice none 0 0], errV (3, xs')]) (by simp only [results, Tryz.results29]; go_simp) rfl ?_
  have s1 := hbw1.size; have s2 := hbw2.size; have s3 := hbw3.size
  simp at s1 s2
  have b1 : Below w.heap.size w w1 := (((Below.refl _ w).alloc (Nat.le_refl _) (.cells #[.string ⟨#[]⟩, .slice none 0 0] 37)).alloc (by simp) (.cells #[.int .i64 0, .int .i64 0] 41)).trans (hbw1.mono (by simp; omega))
  have b2 : Below w.heap.size w w2 := (b1.alloc (by omega) _).trans (hbw2.mono (by simp; omega))
  have b3 : Below w.heap.size w w3 := b2.trans (hbw3.mono (by omega))
  exact ⟨by ((repeat' (first | (with_reducible exact Below.refl _ _) | (with_reducible assumption) | (with_reducible refine Below.setCell ?_ ?_ _) | (with_reducible refine Below.alloc ?_ ?_ _) | (with_reducible refine Below.drew ?_) | (with_reducible refine below_drewN ?_ _) | (with_reducible refine Below.step (by with_reducible assumption) ?_ ?_))) <;> (first | omega | (simp; done) | (simp; omega))), 3, xs', by omega, x0, by omega, rfl⟩

set_option maxRecDepth 100000 in
set_option maxHeartbeats 8000000 in
theorem attParse_oid (v : Value) (b : List UInt8) (w : World) (x y : Elem) (hG : Glo w) (hv : IsB w v b) (hL : b.length ≤ 90000) (hp : partsE b 0 16 = .ok [x, y]) (his : isE x 0 false 6 = true) (ho : oidD (seg b x.body x.stop) = none) :
    Calls Tryz.prog 29 #[v] w (RetPE b.length w) := by
  have hlen := hv.len ulB
  have hall := (partsE_ok hp).2.2.2.2.2
  obtain ⟨x0, x1, x2, x3, x4⟩ := hall x (by simp)
  obtain ⟨y0, y1, y2, y3, y4⟩ := hall y (by simp)
  clear x4 y4
  have HP := Lib.hid (fun W h => parts_two (v := v) (by omega) hp W h)
  have HV := Lib.hid hv
  have HG := Lib.hid hG
  have HF := Lib.hid attFail
  simp only [errV] at HF
  obtain ⟨vc, hcut, hvc⟩ := hv.cut (P := Tryz.prog) ulB szB .i64 .i64 (lo := x.body) (hi := x.stop) (by omega) x2 x3
  have hvc' : IsB w vc (seg b x.body x.stop) := hvc
  have hsl := seg_len b x.body x.stop (by omega) x2 x3
  have HVC := Lib.hid hvc'
  have HD : Hid (∀ W, Glo W → IsB W vc (seg b x.body x.stop) → Calls Tryz.prog 56 #[vc] W (RetB (.tuple #[.string ⟨#[]⟩, .int .i64 6]) W)) := fun W hg h => by have := dec_any vc _ W hg h (by omega); rwa [ho] at this
  have HI : Hid (∀ W, Calls Tryz.prog 55 #[elV x, .int .i64 0, .bool false, .int .i64 6] W (RetB (.bool true) W)) := fun W => by have := is_any x 0 6 false W; rwa [his] at this
  clear hsl
  generalize seg b x.body x.stop = C at *
  obtain ⟨xc, xn, xk, xs', xb, xe⟩ := x
  obtain ⟨yc, yn, yk, ys', yb, ye⟩ := y
  simp only at x0 x1 x2 x3 y0 y1 y2 y3 hcut
  simp only [elV] at HI
  clear hv hp hall his hG hvc hvc' ho
  go_enter Tryz.func29, Tryz.ntmps29
  go_wp2_with (first | ((go_at_call 54); (with_reducible refine (HP.out _ ((HV.out.alloc _).alloc _)).mono ?_); rintro e w1 ⟨A5, k5, rfl, hr, hbw1⟩; obtain ⟨hcw1, hfw1⟩ := bcell hbw1; have hzw1 := hbw1.size; (try simp at hzw1); have hyw1 : w.heap.size < w1.heap.size := (by omega); (try have hyaw1 : w.heap.size + 1 < w1.heap.size := (by omega)); (try have hybw1 : w.heap.size + 2 < w1.heap.size := (by omega)); (try have hycw1 : w.heap.size + 3 < w1.heap.size := (by omega)); (try have hydw1 : w.heap.size + 4 < w1.heap.size := (by omega)); clear hzw1; have K0 := Blk.call ((Blk.new w 37 #[.string ⟨#[]⟩, .slice none 0 0]).alloc (.cells #[.int .i64 0, .int .i64 0] 41)) hbw1; have lK0 := K0.lt; have qK0 := K0.q; have rK0 := K0.fz; have K0' := Lib.hid K0; clear K0; have K0 := K0'.out; clear K0'; have K1 := Blk.call (blk_in (t := 41) (cs := #[.int .i64 0, .int .i64 0]) (w := w.alloc (.cells #[.string ⟨#[]⟩, .slice none 0 0] 37)) (g := w.heap.size + 1) (by simp)) hbw1; have lK1 := K1.lt; have qK1 := K1.q; have rK1 := K1.fz; have K1' := Lib.hid K1; clear K1; have K1 := K1'.out; clear K1'; have hl5 := hr.isR.len (P := Tryz.prog) ulEl; obtain ⟨⟨b0, o0, hi0, hge0, hbl0, p00, p01, p02, p03, p04, p05⟩, ⟨b1, o1, hi1, hge1, hbl1, p10, p11, p12, p13, p14, p15⟩⟩ := two_at hr; clear hr; simp only at p00 p01 p02 p03 p04 p05 p10 p11 p12 p13 p14 p15) | ((go_at_call 55); (with_reducible refine (HI.out _).mono ?_); rintro e w2 ⟨rfl, hbw2⟩; have KA := Blk.call (K0.alloc _) hbw2; have lKA := KA.lt; have qKA := KA.q; have rKA := KA.fz; have KA' := Lib.hid KA; clear KA; have KA := KA'.out; clear KA'; have KB := Blk.call (K1.alloc _) hbw2; have lKB := KB.lt; have qKB := KB.q; have rKB := KB.fz; have KB' := Lib.hid KB; clear KB; have KB := KB'.out; clear KB'; obtain ⟨hcw2, hfw2⟩ := bcell hbw2))
  have s1 := hbw1.size; have s2 := hbw2.size
  simp at s1 s2
  have B1 : Below w.heap.size w w1 := (((Below.refl _ w).alloc (Nat.le_refl _) (.cells #[.string ⟨#[]⟩, .slice none 0 0] 37)).alloc (by simp) (.cells #[.int .i64 0, .int .i64 0] 41)).trans (hbw1.mono (by simp; omega))
  have B12 : Below w1.heap.size w1 w2 := ((Below.refl _ w1).alloc (Nat.le_refl _) _).trans (hbw2.mono (by simp))
  have B2 : Below w.heap.size w w2 := B1.trans (B12.mono (by omega))
  have q04 : w2.cell? ⟨b0, o0 + 4, none⟩ = some (.int .i64 xb) := (B12.cell (p := ⟨b0, o0 + 4, none⟩) hbl0).trans p04
  have q05 : w2.cell? ⟨b0, o0 + 5, none⟩ = some (.int .i64 xe) := (B12.cell (p := ⟨b0, o0 + 5, none⟩) hbl0).trans p05
  have hb02 : b0 < w2.heap.size := by omega
  have HB2 := Lib.hid B2
  have KKA := Lib.hid KA
  have KKB := Lib.hid KB
  clear hbw1 hbw2 hcw1 hfw1 hcw2 hfw2 B1 B2 K0 K1 qK0 rK0 qK1 rK1 lK0 lK1 KA KB qKA rKA lKA qKB rKB lKB p00 p01 p02 p03 p10 p11 p12 p13 p14 p15
  go_region_held3 (fun W' => W'.cell? ⟨b0, o0 + 4, none⟩ = some (.int .i64 xb) ∧ W'.cell? ⟨b0, o0 + 5, none⟩ = some (.int .i64 xe))
    (first | go_keep | exact ⟨(hbw3.cell (p := ⟨b0, o0 + 4, none⟩) hb02).trans (by simp [*]), (hbw3.cell (p := ⟨b0, o0 + 5, none⟩) hb02).trans (by simp [*])⟩)
    (((go_at_call 56); (with_reducible refine (HD.out _ (HG.out.below HB2.out.drew) (HVC.out.below HB2.out.drew)).mono ?_); rintro e w3 ⟨rfl, hbw3⟩))
  have B23 : Below w2.heap.size w2 w3 := ((Below.refl w2.heap.size w2).drew).trans (hbw3.mono (by simp))
  have q04' : w3.cell? ⟨b0, o0 + 4, none⟩ = some (.int .i64 xb) := (B23.cell (p := ⟨b0, o0 + 4, none⟩) hb02).trans q04
  have KA3 := Blk.call (KKA.out) B23; have lKA3 := KA3.lt; have qKA3 := KA3.q; have rKA3 := KA3.fz; have KA3' := Lib.hid KA3; clear KA3; have KA3 := KA3'.out; clear KA3'
  have KB3 := Blk.call (KKB.out) B23; have lKB3 := KB3.lt; have qKB3 := KB3.q; have rKB3 := KB3.fz; have KB3' := Lib.hid KB3; clear KB3; have KB3 := KB3'.out; clear KB3'
  have B3 : Below w.heap.size w w3 := HB2.out.trans (B23.mono (by omega))
  clear hbw3
  go_wp2_with (first | ((go_at_call 53); (with_reducible refine (HF.out _ _ _).mono ?_); rintro e w4 ⟨rfl, hbw4⟩; have J0 := Blk.call (KA3) hbw4; have lJ0 := J0.lt; have qJ0 := J0.q; have rJ0 := J0.fz; have J0' := Lib.hid J0; clear J0; have J0 := J0'.out; clear J0'; have J1 := Blk.call (KB3) hbw4; have lJ1 := J1.lt; have qJ1 := J1.q; have rJ1 := J1.fz; have J1' := Lib.hid J1; clear J1; have J1 := J1'.out; clear J1'))
  refine bodyPost_ret (v := .tuple #[.agg #[.string ⟨#[]⟩, .slice none 0 0], errV (6, xb)]) (by simp only [results, Tryz.results29]; go_simp) rfl ?_
  have s3 := B3.size; have s4 := hbw4.size
  have b4 : Below w.heap.size w w4 := B3.trans (hbw4.mono (by omega))
  exact ⟨by ((repeat' (first | (with_reducible exact Below.refl _ _) | (with_reducible assumption) | (with_reducible refine Below.setCell ?_ ?_ _) | (with_reducible refine Below.alloc ?_ ?_ _) | (with_reducible refine Below.drew ?_) | (with_reducible refine below_drewN ?_ _) | (with_reducible refine Below.step (by with_reducible assumption) ?_ ?_))) <;> (first | omega | (simp; done) | (simp; omega))), 6, xb, by omega, by omega, by omega, rfl⟩

set_option maxRecDepth 100000 in
set_option maxHeartbeats 8000000 in
theorem attParse_val (v : Value) (b : List UInt8) (w : World) (x y : Elem) (s : List UInt8) (hG : Glo w) (hv : IsB w v b) (hL : b.length ≤ 90000) (hp : partsE b 0 16 = .ok [x, y]) (his : isE x 0 false 6 = true) (ho : oidD (seg b x.body x.stop) = some s) :
    Calls Tryz.prog 29 #[v] w (if treeOK 16 (seg b y.start y.stop) then AtY s (seg b y.start y.stop) (errV (0, 0)) w else RetPE b.length w) := by
  have hlen := hv.len ulB
  have hall := (partsE_ok hp).2.2.2.2.2
  obtain ⟨x0, x1, x2, x3, x4⟩ := hall x (by simp)
  obtain ⟨y0, y1, y2, y3, y4⟩ := hall y (by simp)
  clear x4 y4
  have HP := Lib.hid (fun W h => parts_two (v := v) (by omega) hp W h)
  have HV := Lib.hid hv
  have HG := Lib.hid hG
  have HF := Lib.hid attFail
  simp only [errV] at HF
  obtain ⟨vc, hcut, hvc⟩ := hv.cut (P := Tryz.prog) ulB szB .i64 .i64 (lo := x.body) (hi := x.stop) (by omega) x2 x3
  have hvc' : IsB w vc (seg b x.body x.stop) := hvc
  have hsl := seg_len b x.body x.stop (by omega) x2 x3
  have HVC := Lib.hid hvc'
  obtain ⟨vy, hcuty, hvy⟩ := hv.cut (P := Tryz.prog) ulB szB .i64 .i64 (lo := y.start) (hi := y.stop) (by omega) (by omega) y3
  have hvy' : IsB w vy (seg b y.start y.stop) := hvy
  have hsy := seg_len b y.start y.stop (by omega) (by omega) y3
  have HVY := Lib.hid hvy'
  have HD : Hid (∀ W, Glo W → IsB W vc (seg b x.body x.stop) → Calls Tryz.prog 56 #[vc] W (RetB (.tuple #[.string (bStr s), .int .i64 0]) W)) := fun W hg h => by have := dec_any vc _ W hg h (by omega); rwa [ho] at this
  have HI : Hid (∀ W, Calls Tryz.prog 55 #[elV x, .int .i64 0, .bool false, .int .i64 6] W (RetB (.bool true) W)) := fun W => by have := is_any x 0 6 false W; rwa [his] at this
  have HCL : Hid (∀ W, IsB W vy (seg b y.start y.stop) → Calls Tryz.prog 57 #[vy] W (RetO 5 (seg b y.start y.stop) W)) := fun W h => clone_any vy _ W h (by omega)
  clear hsl
  generalize seg b x.body x.stop = C at *
  obtain ⟨xc, xn, xk, xs', xb, xe⟩ := x
  obtain ⟨yc, yn, yk, ys', yb, ye⟩ := y
  simp only at x0 x1 x2 x3 y0 y1 y2 y3 hcut hcuty hsy ⊢
  simp only [elV] at HI
  simp only at HVY HCL
  generalize seg b ys' ye = l at *
  obtain ⟨Q, hQ⟩ : ∃ Q, (if treeOK 16 l then AtY s l (errV (0, 0)) w else RetPE b.length w) = Q := ⟨_, rfl⟩
  rw [hQ]
  have HQ := Lib.hid hQ
  clear hv hp hall his hG hvc hvc' ho hvy hvy' hQ
  go_enter Tryz.func29, Tryz.ntmps29
  go_wp2_with (first | ((go_at_call 54); (with_reducible refine (HP.out _ ((HV.out.alloc _).alloc _)).mono ?_); rintro e w1 ⟨A5, k5, rfl, hr, hbw1⟩; obtain ⟨hcw1, hfw1⟩ := bcell hbw1; have hzw1 := hbw1.size; (try simp at hzw1); have hyw1 : w.heap.size < w1.heap.size := (by omega); (try have hyaw1 : w.heap.size + 1 < w1.heap.size := (by omega)); (try have hybw1 : w.heap.size + 2 < w1.heap.size := (by omega)); (try have hycw1 : w.heap.size + 3 < w1.heap.size := (by omega)); (try have hydw1 : w.heap.size + 4 < w1.heap.size := (by omega)); clear hzw1; have K0 := Blk.call ((Blk.new w 37 #[.string ⟨#[]⟩, .slice none 0 0]).alloc (.cells #[.int .i64 0, .int .i64 0] 41)) hbw1; have lK0 := K0.lt; have qK0 := K0.q; have rK0 := K0.fz; have K0' := Lib.hid K0; clear K0; have K0 := K0'.out; clear K0'; have K1 := Blk.call (blk_in (t := 41) (cs := #[.int .i64 0, .int .i64 0]) (w := w.alloc (.cells #[.string ⟨#[]⟩, .slice none 0 0] 37)) (g := w.heap.size + 1) (by simp)) hbw1; have lK1 := K1.lt; have qK1 := K1.q; have rK1 := K1.fz; have K1' := Lib.hid K1; clear K1; have K1 := K1'.out; clear K1'; have hl5 := hr.isR.len (P := Tryz.prog) ulEl; obtain ⟨⟨b0, o0, hi0, hge0, hbl0, p00, p01, p02, p03, p04, p05⟩, ⟨b1, o1, hi1, hge1, hbl1, p10, p11, p12, p13, p14, p15⟩⟩ := two_at hr; clear hr; simp only at p00 p01 p02 p03 p04 p05 p10 p11 p12 p13 p14 p15) | ((go_at_call 55); (with_reducible refine (HI.out _).mono ?_); rintro e w2 ⟨rfl, hbw2⟩; have KA := Blk.call (K0.alloc _) hbw2; have lKA := KA.lt; have qKA := KA.q; have rKA := KA.fz; have KA' := Lib.hid KA; clear KA; have KA := KA'.out; clear KA'; have KB := Blk.call (K1.alloc _) hbw2; have lKB := KB.lt; have qKB := KB.q; have rKB := KB.fz; have KB' := Lib.hid KB; clear KB; have KB := KB'.out; clear KB'; obtain ⟨hcw2, hfw2⟩ := bcell hbw2))
  have s1 := hbw1.size; have s2 := hbw2.size
  simp at s1 s2
  have B1 : Below w.heap.size w w1 := (((Below.refl _ w).alloc (Nat.le_refl _) (.cells #[.string ⟨#[]⟩, .slice none 0 0] 37)).alloc (by simp) (.cells #[.int .i64 0, .int .i64 0] 41)).trans (hbw1.mono (by simp; omega))
  have B12 : Below w1.heap.size w1 w2 := ((Below.refl _ w1).alloc (Nat.le_refl _) _).trans (hbw2.mono (by simp))
  have B2 : Below w.heap.size w w2 := B1.trans (B12.mono (by omega))
  have q04 : w2.cell? ⟨b0, o0 + 4, none⟩ = some (.int .i64 xb) := (B12.cell (p := ⟨b0, o0 + 4, none⟩) hbl0).trans p04
  have q05 : w2.cell? ⟨b0, o0 + 5, none⟩ = some (.int .i64 xe) := (B12.cell (p := ⟨b0, o0 + 5, none⟩) hbl0).trans p05
  have q13 : w2.cell? ⟨b1, o1 + 3, none⟩ = some (.int .i64 ys') := (B12.cell (p := ⟨b1, o1 + 3, none⟩) hbl1).trans p13
  have q15 : w2.cell? ⟨b1, o1 + 5, none⟩ = some (.int .i64 ye) := (B12.cell (p := ⟨b1, o1 + 5, none⟩) hbl1).trans p15
  have hb02 : b0 < w2.heap.size := by omega
  have hgb1 : w.heap.size + 1 < b1 := by simp at hge1; omega
  clear hge0 hge1
  have hb12 : b1 < w2.heap.size := by omega
  have HB2 := Lib.hid B2
  have KKA := Lib.hid KA
  have KKB := Lib.hid KB
  clear hbw1 hbw2 hcw1 hfw1 hcw2 hfw2 B1 B2 K0 K1 qK0 rK0 qK1 rK1 lK0 lK1 KA KB qKA rKA lKA qKB rKB lKB p00 p01 p02 p03 p04 p05 p10 p11 p12 p13 p14 p15 hbl0 hbl1
  go_region_held3 (fun W' => W'.cell? ⟨b0, o0 + 4, none⟩ = some (.int .i64 xb) ∧ W'.cell? ⟨b0, o0 + 5, none⟩ = some (.int .i64 xe))
    (first | go_keep | exact ⟨(hbw3.cell (p := ⟨b0, o0 + 4, none⟩) hb02).trans (by simp [*]), (hbw3.cell (p := ⟨b0, o0 + 5, none⟩) hb02).trans (by simp [*])⟩)
    (((go_at_call 56); (with_reducible refine (HD.out _ (HG.out.below HB2.out.drew) (HVC.out.below HB2.out.drew)).mono ?_); rintro e w3 ⟨rfl, hbw3⟩))
  have B23 : Below w2.heap.size w2 w3 := ((Below.refl w2.heap.size w2).drew).trans (hbw3.mono (by simp))
  have r13 : w3.cell? ⟨b1, o1 + 3, none⟩ = some (.int .i64 ys') := (B23.cell (p := ⟨b1, o1 + 3, none⟩) hb12).trans q13
  have r15 : w3.cell? ⟨b1, o1 + 5, none⟩ = some (.int .i64 ye) := (B23.cell (p := ⟨b1, o1 + 5, none⟩) hb12).trans q15
  have s3 := B23.size
  have hb13 : b1 < w3.heap.size := by omega
  have KKA3 := Lib.hid (KKA.out.call B23)
  have KKB3 := Lib.hid (KKB.out.call B23)
  have B3 := Lib.hid (HB2.out.trans (B23.mono (by omega)))
  clear hbw3 q04 q05 q13 q15 B12
  go_wp2_with fail
  have hbX : ∀ o : Obj, b1 < (w3.alloc o).drew.heap.size := fun o => by simp; omega
  have hbY : b1 < w3.drew.heap.size := by simp; omega
  have hne13 : ¬ (b1 = w3.heap.size) := by omega
  have hne13' : ¬ (w3.heap.size = b1) := by omega
  go_cut [9] from 90 (fun t9 wx => ∃ g A k, t9 = .pointer (some ⟨g, 0, none⟩) ∧ w3.heap.size ≤ g ∧ Blk wx g 37 #[.string (bStr s), .slice A l.length k] ∧ OwB wx w3.heap.size 5 (.slice A l.length k) l ∧ Below w3.heap.size w3 wx)
  case first =>
    go_region_held3 (fun W' => W'.cell? ⟨b1, o1 + 3, none⟩ = some (.int .i64 ys') ∧ W'.cell? ⟨b1, o1 + 5, none⟩ = some (.int .i64 ye))
      (first | go_keep | (refine ⟨(hbw4.cell (p := ⟨b1, o1 + 3, none⟩) hbY).trans ?_, (hbw4.cell (p := ⟨b1, o1 + 5, none⟩) hbY).trans ?_⟩ <;> (simp [*]; done)) | (refine ⟨(hbw4.cell (p := ⟨b1, o1 + 3, none⟩) (hbX _)).trans ?_, (hbw4.cell (p := ⟨b1, o1 + 5, none⟩) (hbX _)).trans ?_⟩ <;> (simp [*]; done)) | (refine ⟨(((Below.refl w4.heap.size w4).alloc (Nat.le_refl _) _).cell (p := ⟨b1, o1 + 3, none⟩) hb14).trans ?_, (((Below.refl w4.heap.size w4).alloc (Nat.le_refl _) _).cell (p := ⟨b1, o1 + 5, none⟩) hb14).trans ?_⟩ <;> (simp [*]; done)) | exact ⟨(((Below.refl w4.heap.size w4).alloc (Nat.le_refl _) _).cell (p := ⟨b1, o1 + 3, none⟩) hb14).trans ((hbw4.cell (p := ⟨b1, o1 + 3, none⟩) hbY).trans r13), (((Below.refl w4.heap.size w4).alloc (Nat.le_refl _) _).cell (p := ⟨b1, o1 + 5, none⟩) hb14).trans ((hbw4.cell (p := ⟨b1, o1 + 5, none⟩) hbY).trans r15)⟩ | (trace_state; fail))
      (first | ((go_at_call 57); (with_reducible refine (HCL.out _ (HVY.out.below B3.out.drew)).mono ?_); rintro e w4 ⟨v4, rfl, ho4, hbw4⟩; obtain ⟨A4, k4, rfl⟩ := isB_slice ho4.isB; have HO4 := Lib.hid ho4; have hb14 : b1 < w4.heap.size := Nat.lt_of_lt_of_le hbY hbw4.size; have hne14 : ¬ (b1 = w4.heap.size) := Nat.ne_of_lt hb14; have hne14' : ¬ (w4.heap.size = b1) := Nat.ne_of_gt hb14; clear ho4) | ((go_at_call 57); (with_reducible refine (HCL.out _ ((HVY.out.below B3.out).alloc _).drew).mono ?_); rintro e w4 ⟨v4, rfl, ho4, hbw4⟩; obtain ⟨A4, k4, rfl⟩ := isB_slice ho4.isB; have HO4 := Lib.hid ho4; have hb14 : b1 < w4.heap.size := Nat.lt_of_lt_of_le (hbX _) hbw4.size; have JZ := Blk.call (Blk.drew (Blk.new w3 37 #[.string ⟨#[]⟩, .slice none 0 0])) hbw4; have qZ := JZ.q; have fZ := JZ.fz; have lZ := JZ.lt; have hne14 : ¬ (b1 = w4.heap.size) := Nat.ne_of_lt hb14; have hne14' : ¬ (w4.heap.size = b1) := Nat.ne_of_gt hb14; clear ho4))
    · go_wp2_with fail
      go_meet
      case rel =>
        have s4 := hbw4.size
        simp at s4
        have b34 : Below w3.heap.size w3 w4 := ((Below.refl w3.heap.size w3).drew).trans (hbw4.mono (by simp))
        refine ⟨w4.heap.size, A4, k4, rfl, s4, Blk.new _ _ _, ?_, b34.alloc s4 _⟩
        have := HO4.out
        simp at this
        exact OwB.alloc this _
    · go_wp2_with fail
      go_meet
      case rel =>
        have s4 := hbw4.size
        simp at s4
        have b34 : Below w3.heap.size w3 w4 := (((Below.refl w3.heap.size w3).alloc (Nat.le_refl _) _).drew).trans (hbw4.mono (by simp))
        refine ⟨w3.heap.size, A4, k4, rfl, Nat.le_refl _, ?_, ?_, (b34.setCell (p := ⟨w3.heap.size, 0, none⟩) (Nat.le_refl _) _).setCell (p := ⟨w3.heap.size, 1, none⟩) (Nat.le_refl _) _⟩
        · have := (JZ.set_ 0 (.string (bStr s))).set_ 1 (.slice A4 l.length k4)
          simpa using this
        · have := HO4.out
          simp at this
          exact OwB.more (base := w3.heap.size + 1) (ownsRow_setCell_below (ownsRow_setCell_below this (Nat.lt_succ_self _) _) (Nat.lt_succ_self _) _) (Nat.le_succ _)
  case rest =>
    obtain ⟨g, A6, k6, rfl, hg, hK, hO, hB⟩ := hcut
    have sc := hB.size
    have gl := hK.lt
    have lw := KKB3.out.lt
    have sw := B3.out.size
    have HKg := Lib.hid hK
    have BC := Lib.hid (B3.out.trans (hB.mono sw))
    have KAc := Lib.hid (KKA3.out.below hB (by omega))
    have KBc := Lib.hid (KKB3.out.below hB lw)
    have c13 : wc.cell? ⟨b1, o1 + 3, none⟩ = some (.int .i64 ys') := (hB.cell (p := ⟨b1, o1 + 3, none⟩) hb13).trans r13
    have HOc := Lib.hid hO
    have hbc : b1 < wc.heap.size := by omega
    have qg := hK.q
    have fg := hK.fz
    clear hB r13 r15 hO hK hbX hbY hne13 hne13' hlen hcut hcuty HI HP HCL HD
    by_cases ht : treeOK 16 l
    · have H := Lib.hid (fun W u (h : IsB W u l) => parse_yes u l W h (by omega) ht)
      have HQt : Q = AtY s l (errV (0, 0)) w := by rw [← HQ.out, if_pos ht]
      have HQ2 := Lib.hid HQt
      clear ht HQ HQt
      go_wp2_with (first | ((go_at_call 49); (with_reducible refine (H.out _ _ HOc.out.isB).mono ?_); rintro e w5 ⟨hbw5, x1, x2, x3, y4, y5, m4, z4, m5, z5, rfl⟩; have Jg := Blk.call (HKg.out) hbw5; have lJg := Jg.lt; have qJg := Jg.q; have rJg := Jg.fz; have Jg' := Lib.hid Jg; clear Jg; have Jg := Jg'.out; clear Jg'; have J0 := Blk.call (KAc.out) hbw5; have lJ0 := J0.lt; have qJ0 := J0.q; have rJ0 := J0.fz; have J0' := Lib.hid J0; clear J0; have J0 := J0'.out; clear J0'; have J1 := Blk.call (KBc.out) hbw5; have lJ1 := J1.lt; have qJ1 := J1.q; have rJ1 := J1.fz; have J1' := Lib.hid J1; clear J1; have J1 := J1'.out; clear J1'; have HO5 := Lib.hid (OwB.below HOc.out hbw5)))
      rw [HQ2.out]
      refine bodyPost_ret (v := .tuple #[.agg #[.string (bStr s), .slice A6 l.length k6], errV (0, 0)]) (by simp only [results, Tryz.results29]; go_simp) rfl ?_
      have b5 : Below w.heap.size w w5 := BC.out.trans (hbw5.mono BC.out.size)
      have s5 := b5.size
      refine ⟨A6, k6, rfl, OwB.more (base := w3.heap.size) ?_ (by omega), by ((repeat' (first | (with_reducible exact Below.refl _ _) | (with_reducible assumption) | (with_reducible refine Below.setCell ?_ ?_ _) | (with_reducible refine Below.alloc ?_ ?_ _) | (with_reducible refine Below.drew ?_) | (with_reducible refine below_drewN ?_ _) | (with_reducible refine Below.step (by with_reducible assumption) ?_ ?_))) <;> (first | omega | (simp; done) | (simp; omega)))⟩
      refine OwB.alloc (OwB.alloc ?_ _) _
      have h0 : w.heap.size < w3.heap.size := by omega
      exact ownsRow_setCell_below (a := ⟨w.heap.size + 1, 1, none⟩) (ownsRow_setCell_below (a := ⟨w.heap.size + 1, 0, none⟩) (ownsRow_setCell_below (a := ⟨w.heap.size, 1, none⟩) (ownsRow_setCell_below (a := ⟨w.heap.size, 0, none⟩) HO5.out h0 _) h0 _) lw _) lw _
    · have H := Lib.hid (fun W u (h : IsB W u l) => parse_no u l W h (by omega) ht)
      have HQt : Q = RetPE b.length w := by rw [← HQ.out, if_neg ht]
      have HQ2 := Lib.hid HQt
      clear ht HQ HQt
      go_wp2_with (first | ((go_at_call 49); (with_reducible refine (H.out _ _ HOc.out.isB).mono ?_); rintro e w5 ⟨hbw5, ec, eo, hec, heo, heo2, rfl⟩; have Jg := Blk.call (HKg.out) hbw5; have lJg := Jg.lt; have qJg := Jg.q; have rJg := Jg.fz; have Jg' := Lib.hid Jg; clear Jg; have Jg := Jg'.out; clear Jg'; have J0 := Blk.call (KAc.out) hbw5; have lJ0 := J0.lt; have qJ0 := J0.q; have rJ0 := J0.fz; have J0' := Lib.hid J0; clear J0; have J0 := J0'.out; clear J0'; have J1 := Blk.call (KBc.out) hbw5; have lJ1 := J1.lt; have qJ1 := J1.q; have rJ1 := J1.fz; have J1' := Lib.hid J1; clear J1; have J1 := J1'.out; clear J1'; have hn : (ec == 0) = false := beq_eq_false_iff_ne.2 (by omega); have hn' : (ec != 0) = true := (by simp; omega)))
      have b5 : Below w.heap.size w w5 := BC.out.trans (hbw5.mono BC.out.size)
      have s5 := hbw5.size
      have bd : Below w.heap.size w ((w5.alloc (.cells #[.int .i64 0, .int .i64 0, .bool false, .slice none 0 0, .slice none 0 0] 59)).alloc (.cells #[.int .i64 ec, .int .i64 eo] 41)) := (b5.alloc b5.size _).alloc (by have := b5.size; simp; omega) _
      have KE : Blk ((w5.alloc (.cells #[.int .i64 0, .int .i64 0, .bool false, .slice none 0 0, .slice none 0 0] 59)).alloc (.cells #[.int .i64 ec, .int .i64 eo] 41)) (w5.heap.size + 1) 41 #[.int .i64 ec, .int .i64 eo] := blk_in (by simp)
      have D0 : Blk ((w5.alloc (.cells #[.int .i64 0, .int .i64 0, .bool false, .slice none 0 0, .slice none 0 0] 59)).alloc (.cells #[.int .i64 ec, .int .i64 eo] 41)) w.heap.size 37 _ := (J0.alloc _).alloc _
      have D1 : Blk ((w5.alloc (.cells #[.int .i64 0, .int .i64 0, .bool false, .slice none 0 0, .slice none 0 0] 59)).alloc (.cells #[.int .i64 ec, .int .i64 eo] 41)) (w.heap.size + 1) 41 _ := (J1.alloc _).alloc _
      have cB : ((w5.alloc (.cells #[.int .i64 0, .int .i64 0, .bool false, .slice none 0 0, .slice none 0 0] 59)).alloc (.cells #[.int .i64 ec, .int .i64 eo] 41)).cell? ⟨b1, o1 + 3, none⟩ = some (.int .i64 ys') := ((((Below.refl w5.heap.size w5).alloc (Nat.le_refl _) _).alloc (by simp) _).cell (p := ⟨b1, o1 + 3, none⟩) (Nat.lt_of_lt_of_le hbc s5)).trans ((hbw5.cell (p := ⟨b1, o1 + 3, none⟩) hbc).trans c13)
      have szd : ((w5.alloc (.cells #[.int .i64 0, .int .i64 0, .bool false, .slice none 0 0, .slice none 0 0] 59)).alloc (.cells #[.int .i64 ec, .int .i64 eo] 41)).heap.size = w5.heap.size + 1 + 1 := by simp
      generalize ((w5.alloc (.cells #[.int .i64 0, .int .i64 0, .bool false, .slice none 0 0, .slice none 0 0] 59)).alloc (.cells #[.int .i64 ec, .int .i64 eo] 41)) = wd at *
      generalize hge : w5.heap.size + 1 = ge at *
      have hws : IntKind.i64.wrap (ys' + eo) = ys' + eo := IntWalk.i64_in _ (by omega)
      have hgd : ge < wd.heap.size := by omega
      have hbd : b1 < wd.heap.size := by omega
      have n1 : ¬ (ge = w.heap.size) := by omega
      have n2 : ¬ (ge = w.heap.size + 1) := by omega
      have n3 : ¬ (b1 = w.heap.size) := by omega
      have n4 : ¬ (b1 = w.heap.size + 1) := by omega
      have n1' : ¬ (w.heap.size = ge) := by omega
      have n2' : ¬ (w.heap.size + 1 = ge) := by omega
      have n3' : ¬ (w.heap.size = b1) := by omega
      have n4' : ¬ (w.heap.size + 1 = b1) := by omega
      have qE := KE.q
      have fE := KE.fz
      have HD0 := Lib.hid D0
      have HD1 := Lib.hid D1
      have e0 := KE.q 0
      have e1 := KE.q 1
      clear D0 D1 qJ0 rJ0 qJ1 rJ1 J0 J1 lJ0 lJ1 hge qJg rJg Jg lJg qg fg
      go_region_held3 (fun W' => W'.cell? ⟨ge, 0, none⟩ = some (.int .i64 ec) ∧ W'.cell? ⟨ge, 1, none⟩ = some (.int .i64 eo) ∧ W'.cell? ⟨b1, o1 + 3, none⟩ = some (.int .i64 ys'))
        (first | go_keep | (refine ⟨(hbw6.cell (p := ⟨ge, 0, none⟩) hgd).trans ?_, (hbw6.cell (p := ⟨ge, 1, none⟩) hgd).trans ?_, (hbw6.cell (p := ⟨b1, o1 + 3, none⟩) hbd).trans ?_⟩ <;> (simp [*]; done)) | (trace_state; fail))
        (((go_at_call 53); (with_reducible refine (HF.out _ _ _).mono ?_); rintro e w6 ⟨rfl, hbw6⟩; have L0 := HD0.out.drew.call hbw6; have L1 := HD1.out.drew.call hbw6; have qL0 := L0.q; have fL0 := L0.fz; have lL0 := L0.lt; have qL1 := L1.q; have fL1 := L1.fz; have lL1 := L1.lt))
      go_wp2_with fail
      rw [HQ2.out]
      refine bodyPost_ret (v := .tuple #[.agg #[.string ⟨#[]⟩, .slice none 0 0], errV (ec, ys' + eo)]) (by simp only [results, Tryz.results29]; go_simp) rfl ?_
      have s6 := hbw6.size
      simp at s6
      have b6 : Below w.heap.size w w6 := bd.drew.trans (hbw6.mono (by simp; omega))
      exact ⟨by ((repeat' (first | (with_reducible exact Below.refl _ _) | (with_reducible assumption) | (with_reducible refine Below.setCell ?_ ?_ _) | (with_reducible refine Below.alloc ?_ ?_ _) | (with_reducible refine Below.drew ?_) | (with_reducible refine below_drewN ?_ _) | (with_reducible refine Below.step (by with_reducible assumption) ?_ ?_))) <;> (first | omega | (simp; done) | (simp; omega))), ec, ys' + eo, hec, by omega, by omega, rfl⟩

theorem attParse (v : Value) (b : List UInt8) (w : World) (hG : Glo w) (hv : IsB w v b) (hL : b.length ≤ 90000) :
    Calls Tryz.prog 29 #[v] w (RetPB (parA b) b.length w) := by
  unfold parA
  cases hp : partsE b 0 16 with
  | error er =>
    obtain ⟨ec, eo⟩ := er
    exact attParse_err v b w ec eo hv (by omega) hp
  | ok xs =>
    match xs, hp with
    | [], hp => exact attParse_few v b w [] hv (by omega) hp (by simp)
    | [x], hp => exact attParse_few v b w [x] hv (by omega) hp (by simp)
    | x :: y :: z :: t, hp => exact attParse_many v b w (x :: y :: z :: t) hv (by omega) hp (by simp)
    | [x, y], hp =>
      simp only
      cases his : isE x 0 false 6 with
      | false => simp only [Bool.false_eq_true, if_false]; exact attParse_tag v b w x y hv (by omega) hp his
      | true =>
        simp only [if_true]
        cases ho : oidD (seg b x.body x.stop) with
        | none => exact attParse_oid v b w x y hG hv hL hp his ho
        | some s =>
          have := attParse_val v b w x y s hG hv hL hp his ho
          simp only
          split
          · rename_i ht; rw [if_pos ht] at this; exact this
          · rename_i ht; rw [if_neg ht] at this; exact this
end Go.Proofs.YtejmkefdcjachaaGreatDoor
end

/- Walks over the comparison of attributes; facts of the law's kind, plain. -/
section
set_option linter.unusedSimpArgs false
set_option linter.unusedVariables false
namespace Go.Proofs.YtejmkefdcjachaaGreatDoor
open Go.RowKit Go.Cr

set_option maxRecDepth 100000 in
set_option maxHeartbeats 4000000 in
theorem attSame (s1 s2 : ByteArray) (v1 v2 : Value) (l1 l2 : List UInt8) (w : World) (h1 : IsB w v1 l1) (h2 : IsB w v2 l2) :
    Calls Tryz.prog 30 #[.agg #[.string s1, v1], .agg #[.string s2, v2]] w (RetB (.bool (decide (s1 = s2 ∧ l1 = l2))) w) := by
  obtain ⟨A1, k1, rfl⟩ := isB_slice h1
  obtain ⟨A2, k2, rfl⟩ := isB_slice h2
  have HB := Lib.hid (fun W (a : IsB W (.slice A1 l1.length k1) l1) (b : IsB W (.slice A2 l2.length k2) l2) => bytes_any _ _ l1 l2 W a b)
  have H1 := Lib.hid h1
  have H2 := Lib.hid h2
  clear h1 h2
  by_cases hs : s1 = s2
  · subst hs
    have e : decide (s1 = s1 ∧ l1 = l2) = decide (l1 = l2) := by simp
    rw [e]
    generalize decide (l1 = l2) = B at *
    go_enter Tryz.func30, Tryz.ntmps30
    go_wp2_with (first | ((go_at_call 17); (with_reducible refine (HB.out _ ((H1.out.alloc _).alloc _) ((H2.out.alloc _).alloc _)).mono ?_); rintro e w1 ⟨rfl, hbw1⟩; have hs1 := hbw1.size; simp at hs1))
    go_ret
    exact ⟨by cases B <;> rfl, by ((repeat' (first | (with_reducible exact Below.refl _ _) | (with_reducible assumption) | (with_reducible refine Below.setCell ?_ ?_ _) | (with_reducible refine Below.alloc ?_ ?_ _) | (with_reducible refine Below.drew ?_) | (with_reducible refine below_drewN ?_ _) | (with_reducible refine Below.step (by with_reducible assumption) ?_ ?_))) <;> (first | omega | (simp; done) | (simp; omega)))⟩
  · have hne : (s1.toList == s2.toList) = false := by
      rw [ByteArray.toList_eq, ByteArray.toList_eq]
      exact beq_eq_false_iff_ne.2 (fun h => hs (by obtain ⟨a⟩ := s1; obtain ⟨b⟩ := s2; simp at h; simp [h]))
    rw [decide_eq_false (fun h => hs h.1)]
    go_enter Tryz.func30, Tryz.ntmps30
    go_wp2_with fail
    go_ret
    exact ⟨by simp [hne], by ((repeat' (first | (with_reducible exact Below.refl _ _) | (with_reducible assumption) | (with_reducible refine Below.setCell ?_ ?_ _) | (with_reducible refine Below.alloc ?_ ?_ _) | (with_reducible refine Below.drew ?_) | (with_reducible refine below_drewN ?_ _) | (with_reducible refine Below.step (by with_reducible assumption) ?_ ?_))) <;> (first | omega | (simp; done) | (simp; omega)))⟩
end Go.Proofs.YtejmkefdcjachaaGreatDoor
end
