/- The parts FormsW of one proof, one behind the other. -/
import Derived.Test.YtlmnmgokfnnbbaaGreatDoorQ01
import Derived.Test.YtlmnmgokfnnbbaaGreatDoorQ17
import Derived.Test.YtlmnmgokfnnbbaaGreatDoorQ18
import Derived.Test.YtlmnmgokfnnbbaaGreatDoorProg
import Derived.Carry
import Derived.Laws.EntriesVeiled

/- The map literal of the kinds of character strings. -/
section
set_option linter.unusedSimpArgs false
set_option linter.unusedVariables false
namespace Go.Proofs.YtlmnmgokfnnbbaaGreatDoor
open Go.RowKit Go.Cr
def RetBt (lo hi : Int) (w : World) (e : Ending) (w' : World) : Prop :=
  e = .returned (.func (.func 214) #[] #[.pointer (some ⟨w.heap.size, 0, none⟩), .pointer (some ⟨w.heap.size + 1, 0, none⟩)]) ∧ w' = (w.alloc (.cells #[.int .i32 lo] 21)).alloc (.cells #[.int .i32 hi] 21)

set_option maxRecDepth 100000 in
set_option maxHeartbeats 4000000 in
theorem between_any (lo hi : Int) (w : World) : Calls Tryz.prog 186 #[.int .i32 lo, .int .i32 hi] w (RetBt lo hi w) := by
  go_enter Tryz.func186, Tryz.ntmps186
  go_wp2_with fail
  go_ret
  exact ⟨rfl, rfl⟩

def IsBt (B : Nat) (w : World) (lo hi : Int) (f : Value) : Prop := ∃ g1 g2, f = .func (.func 214) #[] #[.pointer (some ⟨g1, 0, none⟩), .pointer (some ⟨g2, 0, none⟩)] ∧ B ≤ g1 ∧ B ≤ g2 ∧ Blk w g1 21 #[.int .i32 lo] ∧ Blk w g2 21 #[.int .i32 hi]
theorem IsBt.keep {B : Nat} {w w' : World} {lo hi : Int} {f : Value} (h : IsBt B w lo hi f) (hb : ∀ b, B ≤ b → b < w.heap.size → w'.heap[b]? = w.heap[b]?) : IsBt B w' lo hi f := by
  obtain ⟨g1, g2, he, k1, k2, h1, h2⟩ := h
  exact ⟨g1, g2, he, k1, k2, (hb _ k1 h1.lt).trans h1, (hb _ k2 h2.lt).trans h2⟩
theorem IsBt.below {B : Nat} {w w' : World} {lo hi : Int} {f : Value} (h : IsBt B w lo hi f) (hb : Below w.heap.size w w') : IsBt B w' lo hi f := h.keep fun b _ hlt => hb.block b hlt
theorem IsBt.more {B B' : Nat} {w : World} {lo hi : Int} {f : Value} (h : IsBt B w lo hi f) (hB : B' ≤ B) : IsBt B' w lo hi f := by
  obtain ⟨g1, g2, he, k1, k2, h⟩ := h
  exact ⟨g1, g2, he, Nat.le_trans hB k1, Nat.le_trans hB k2, h⟩
def RetBx (lo hi : Int) (w : World) (e : Ending) (w' : World) : Prop := ∃ f, e = .returned f ∧ IsBt w.heap.size w' lo hi f ∧ (∃ g1 g2, f = .func (.func 214) #[] #[.pointer (some ⟨g1, 0, none⟩), .pointer (some ⟨g2, 0, none⟩)] ∧ w.heap.size ≤ g1 ∧ w.heap.size ≤ g2) ∧ Below w.heap.size w w'
theorem between_x (lo hi : Int) (w : World) : Calls Tryz.prog 186 #[.int .i32 lo, .int .i32 hi] w (RetBx lo hi w) :=
  (between_any lo hi w).mono fun e w' ⟨he, hw⟩ => by
    subst hw
    exact ⟨_, he, ⟨_, _, rfl, Nat.le_refl _, Nat.le_succ _, (Blk.new _ _ _).alloc _, blk_in (by simp)⟩, ⟨_, _, rfl, Nat.le_refl _, Nat.le_succ _⟩, ((Below.refl _ _).alloc (Nat.le_refl _) _).alloc (by simp) _⟩

theorem rep_no (n j : Nat) : ¬ ((Array.replicate n false).getD j false = true) := by
  simp only [Array.getD_eq_getD_getElem?, Array.getElem?_replicate]
  split <;> simp
theorem tMapF : Tryz.prog.underlying 171 = some (.map 3 169) := by kernel_rfl
theorem tIntF : Tryz.prog.underlying 3 = some (.int .i64) := by kernel_rfl

theorem bt_but {B : Nat} {w w' : World} {lo hi : Int} {f : Value} {g : Nat} {F : Int → Option Value} (h : IsBt B w lo hi f) (hM : HasM intKey w g F) (ho : ∀ r, r ≠ g → w'.heap[r]? = w.heap[r]?) : IsBt B w' lo hi f := by
  obtain ⟨g1, g2, he, k1, k2, h1, h2⟩ := h
  obtain ⟨es, c, hb, _⟩ := hM
  have n1 : g1 ≠ g := fun e => by subst e; unfold Blk at h1; rw [hb] at h1; cases h1
  have n2 : g2 ≠ g := fun e => by subst e; unfold Blk at h2; rw [hb] at h2; cases h2
  exact ⟨g1, g2, he, k1, k2, (ho _ n1).trans h1, (ho _ n2).trans h2⟩

def RetFm (w : World) (e : Ending) (w' : World) : Prop :=
  ∃ (gm gb : Nat) (f26 f22 : Value), e = .returned (.map (some gm)) ∧ w.heap.size ≤ gm ∧ Below w.heap.size w w' ∧
    HasM intKey w' gm (mapF (.func (.func 187) #[] #[.pointer (some ⟨gb, 0, none⟩)]) f26 f22 (fun _ => true)) ∧
    w.heap.size ≤ gb ∧ Blk w' gb 167 #[f26] ∧ IsBt w.heap.size w' 32 126 f26 ∧ IsBt w.heap.size w' 0 127 f22

set_option maxRecDepth 100000 in
set_option maxHeartbeats 4000000 in
theorem forms_any (w : World) : Calls Tryz.prog 144 #[] w (RetFm w) := by
  have hmm := @run_makeMap Tryz.prog
  have HB : Hid (∀ lo hi W, Calls Tryz.prog 186 #[.int .i32 lo, .int .i32 hi] W (RetBx lo hi W)) := between_x
  go_enter Tryz.func144, Tryz.ntmps144
  go_wp2_with (first | ((go_at_call 186); (with_reducible refine (HB.out _ _ _).mono ?_); rintro e w1 ⟨f26, rfl, hf26, hbt26, hbw1⟩; obtain ⟨g1, g2, rfl, hg1, hg2⟩ := hbt26))
  --STEPS
  generalize hF20 : (Value.func (.func 187) #[] #[.pointer (some ⟨w1.heap.size, 0, none⟩)]) = f20 at *
  have HF20 := Lib.hid hF20
  clear hF20
  have hBt26 := Lib.hid hf26
  generalize hF26 : (Value.func (.func 214) #[] #[.pointer (some ⟨g1, 0, none⟩), .pointer (some ⟨g2, 0, none⟩)]) = f26 at *
  have HF26 := Lib.hid hF26
  clear hF26
  have hgb : Hid ((w1.alloc (.cells #[f26] 167)).cell? ⟨w1.heap.size, 0, none⟩ = some f26 ∧ Blk (w1.alloc (.cells #[f26] 167)) w1.heap.size 167 #[f26]) := ⟨by simp, Blk.new _ _ _⟩
  have hszW : Hid ((w1.alloc (.cells #[f26] 167)).heap.size = w1.heap.size + 1) := by exact (by simp : (w1.alloc (.cells #[f26] 167)).heap.size = w1.heap.size + 1)
  have hbW : Hid (Below w.heap.size w (w1.alloc (.cells #[f26] 167)) ∧ IsBt w.heap.size (w1.alloc (.cells #[f26] 167)) 32 126 f26) := ⟨hbw1.alloc hbw1.size _, hBt26.out.below ((Below.refl _ _).alloc (Nat.le_refl _) _)⟩
  generalize hW0 : w1.alloc (.cells #[f26] 167) = W0 at *
  refine wp_region_dn (by kernel_rfl) (fun L a W' => ∃ gm f22, FI (fn 184) (.pointer (some ⟨w1.heap.size, 0, none⟩)) f20 f26 W0 gm f22 L a W' ∧ (L.getD 9 false = true → IsBt w.heap.size W' 0 127 f22)) ?hs ?he ?h0
  case h0 =>
    refine ⟨0, undef, ⟨rfl, (Below.refl _ _).drew, rfl, rfl, ?_, ?_, ?_, fun j s v hj => absurd hj (rep_no _ j), fun hj => absurd hj (rep_no _ 0)⟩, fun hj => absurd hj (rep_no _ 9)⟩
    · rfl
    · rfl
    · first | rfl | (rw [← HF20.out]; rfl)
  case hs =>
    intro L a W hd ⟨gm, f22, hI, hJ⟩ i hi
    have hready := hi
    rw [mem_ready] at hi
    obtain ⟨hun, o, ho, haf⟩ := hi
    have hi21 : i < 21 := (Array.getElem?_eq_some_iff.1 ho).1
    have hunF : L.getD i false = false := by
      have hl : i < L.size := by rw [hI.sz]; exact hi21
      simp only [Array.getD_eq_getD_getElem?, Array.getElem?_eq_getElem hl, Option.getD_some] at hun ⊢
      exact hun
    have hJk : ∀ j, j ≠ 9 → (L.setIfInBounds j true).getD 9 false = true → L.getD 9 false = true := fun j hj h => by
      simp only [Array.getD_eq_getD_getElem?, Array.getElem?_setIfInBounds, if_neg hj] at h ⊢
      exact h
    have i0 : i = 0 ∨ i = 1 ∨ i = 2 ∨ i = 3 ∨ i = 4 ∨ i = 5 ∨ i = 6 ∨ i = 7 ∨ i = 8 ∨ i = 9 ∨ i = 10 ∨ i = 11 ∨ i = 12 ∨ i = 13 ∨ i = 14 ∨ i = 15 ∨ i = 16 ∨ i = 17 ∨ i = 18 ∨ i = 19 ∨ i = 20 := by omega
    have s1 := hI.s1
    have s2 := hI.s2
    have s3 := hI.s3
    rcases i0 with rfl | rfl | rfl | rfl | rfl | rfl | rfl | rfl | rfl | rfl | rfl | rfl | rfl | rfl | rfl | rfl | rfl | rfl | rfl | rfl | rfl
    · -- 0
      injection ho with ho; subst ho
      have hnd : ∀ j, (∃ p ∈ insF f20 f26 f22, p.1 = j) → L.getD j false = false := by
        rintro j ⟨p, hp, rfl⟩
        cases hc : L.getD p.1 false with
        | false => rfl
        | true =>
          exfalso
          have : L.getD 0 false = true := by
            simp only [insF, List.mem_cons, List.mem_nil_iff, or_false] at hp
            rcases hp with rfl | rfl | rfl | rfl | rfl | rfl | rfl <;> exact hd _ _ hc rfl ⟨0, .data⟩ (by simp) rfl
          rw [this] at hunF; cases hunF
      have h19 : L.getD 19 false = true → False := fun h => by have := hd 19 _ h rfl ⟨0, .data⟩ (by simp) rfl; rw [this] at hunF; cases hunF
      have hnx : ∀ j s v, L.getD j false = true → exF f20 f26 gm f22 j = some (s, v) → j ≠ 19 ∧ j ≠ 20 := fun j s v hj _ => ⟨fun e => by subst e; exact h19 hj, fun e => by subst e; exact h19 (hd 20 _ hj rfl ⟨19, .data⟩ (by simp) rfl)⟩
      refine wpOp_val (v := .map (some W.heap.size)) rfl rfl (w' := W.alloc (.map #[] 0)) (by simp only [execOp, Sem.run_bind, hmm]; rfl) ⟨W.heap.size, f22, hI.make hunF hnx hnd, fun h => (hJ (hJk _ (by omega) h)).below ((Below.refl _ _).alloc (Nat.le_refl _) _)⟩
    · -- 1
      injection ho with ho; subst ho
      refine wpOp_val (v := form (fn 188) 0) rfl rfl (w' := W) (by go_simp; rfl) ⟨gm, _, hI.val (i := 1) hi21 rfl (by omega) hI.bel (fun _ => rfl), fun h => hJ (hJk _ (by omega) h)⟩
    · -- 2
      injection ho with ho; subst ho
      have d0 : L.getD 0 false = true := haf ⟨0, .data⟩ (by simp) rfl
      have d1 : L.getD 1 false = true := haf ⟨1, .data⟩ (by simp) rfl
      have e6 := hI.ex 0 6 _ d0 rfl
      have ex := hI.ex 1 7 _ d1 rfl
      have hin : (2, (12 : Int), form (fn 188) 0) ∈ insF f20 f26 f22 := by simp [insF]
      obtain ⟨hg0, hM⟩ := hI.map_ d0
      obtain ⟨W', hrun, h1, h2, h3, h4⟩ := hM.insert (t := 171) tMapF tIntF 12 (form (fn 188) 0) (mapF_none hin hunF)
      have hrun' : (Instr.mapUpdate 171 (.map (some gm)) (.int .i64 12) (form (fn 188) 0)).run Tryz.prog W = .ok () W' := hrun
      have HI := hI.ins hi21 hin d0 (h4 _ _ hg0 hI.bel) h1
      have HJ : (L.setIfInBounds 2 true).getD 9 false = true → IsBt w.heap.size W' 0 127 f22 := fun h => bt_but (hJ (hJk _ (by omega) h)) hM h3
      refine wpOp_skip rfl rfl (w' := W') ?_ ⟨gm, f22, HI, HJ⟩
      clear HI HJ h1 h2 h3 h4 hrun hin hI hd haf hJ hready hmm
      go_simp
    · -- 3
      injection ho with ho; subst ho
      have ev : a.eval (.tmp 1) = (fn 184) := by simp [Act.eval, s1]
      refine wpOp_val (v := (fn 184)) rfl rfl (w' := W) (by go_simp) ⟨gm, _, hI.val (i := 3) hi21 rfl (by omega) hI.bel (fun _ => rfl), fun h => hJ (hJk _ (by omega) h)⟩
    · -- 4
      injection ho with ho; subst ho
      have d3 : L.getD 3 false = true := haf ⟨3, .data⟩ (by simp) rfl
      have ev := hI.ex 3 8 _ d3 rfl
      unfold fn at ev
      refine wpOp_val (v := form (fn 184) 1) rfl rfl (w' := W) (by go_simp; rfl) ⟨gm, _, hI.val (i := 4) hi21 rfl (by omega) hI.bel (fun _ => rfl), fun h => hJ (hJk _ (by omega) h)⟩
    · -- 5
      injection ho with ho; subst ho
      have d0 : L.getD 0 false = true := haf ⟨0, .data⟩ (by simp) rfl
      have d4 : L.getD 4 false = true := haf ⟨4, .data⟩ (by simp) rfl
      have e6 := hI.ex 0 6 _ d0 rfl
      have ex := hI.ex 4 9 _ d4 rfl
      have hin : (5, (19 : Int), form (fn 184) 1) ∈ insF f20 f26 f22 := by simp [insF]
      obtain ⟨hg0, hM⟩ := hI.map_ d0
      obtain ⟨W', hrun, h1, h2, h3, h4⟩ := hM.insert (t := 171) tMapF tIntF 19 (form (fn 184) 1) (mapF_none hin hunF)
      have hrun' : (Instr.mapUpdate 171 (.map (some gm)) (.int .i64 19) (form (fn 184) 1)).run Tryz.prog W = .ok () W' := hrun
      have HI := hI.ins hi21 hin d0 (h4 _ _ hg0 hI.bel) h1
      have HJ : (L.setIfInBounds 5 true).getD 9 false = true → IsBt w.heap.size W' 0 127 f22 := fun h => bt_but (hJ (hJk _ (by omega) h)) hM h3
      refine wpOp_skip rfl rfl (w' := W') ?_ ⟨gm, f22, HI, HJ⟩
      clear HI HJ h1 h2 h3 h4 hrun hin hI hd haf hJ hready hmm
      go_simp
    · -- 6
      injection ho with ho; subst ho
      have ev : a.eval (.tmp 3) = f20 := by simp [Act.eval, s3]
      refine wpOp_val (v := f20) rfl rfl (w' := W) (by go_simp) ⟨gm, _, hI.val (i := 6) hi21 rfl (by omega) hI.bel (fun _ => rfl), fun h => hJ (hJk _ (by omega) h)⟩
    · -- 7
      injection ho with ho; subst ho
      have d6 : L.getD 6 false = true := haf ⟨6, .data⟩ (by simp) rfl
      have ev := hI.ex 6 10 _ d6 rfl
      rw [← HF20.out] at ev
      refine wpOp_val (v := form f20 1) rfl rfl (w' := W) (by rw [← HF20.out]; go_simp; rfl) ⟨gm, _, hI.val (i := 7) hi21 rfl (by omega) hI.bel (fun _ => rfl), fun h => hJ (hJk _ (by omega) h)⟩
    · -- 8
      injection ho with ho; subst ho
      have d0 : L.getD 0 false = true := haf ⟨0, .data⟩ (by simp) rfl
      have d7 : L.getD 7 false = true := haf ⟨7, .data⟩ (by simp) rfl
      have e6 := hI.ex 0 6 _ d0 rfl
      have ex := hI.ex 7 11 _ d7 rfl
      have hin : (8, (20 : Int), form f20 1) ∈ insF f20 f26 f22 := by simp [insF]
      obtain ⟨hg0, hM⟩ := hI.map_ d0
      obtain ⟨W', hrun, h1, h2, h3, h4⟩ := hM.insert (t := 171) tMapF tIntF 20 (form f20 1) (mapF_none hin hunF)
      have hrun' : (Instr.mapUpdate 171 (.map (some gm)) (.int .i64 20) (form f20 1)).run Tryz.prog W = .ok () W' := hrun
      have HI := hI.ins hi21 hin d0 (h4 _ _ hg0 hI.bel) h1
      have HJ : (L.setIfInBounds 8 true).getD 9 false = true → IsBt w.heap.size W' 0 127 f22 := fun h => bt_but (hJ (hJk _ (by omega) h)) hM h3
      refine wpOp_skip rfl rfl (w' := W') ?_ ⟨gm, f22, HI, HJ⟩
      clear HI HJ h1 h2 h3 h4 hrun hin hI hd haf hJ hready hmm
      go_simp
    · -- 9
      injection ho with ho; subst ho
      have h10 : L.getD 10 false = false := by
        cases hc : L.getD 10 false with
        | false => rfl
        | true => have := hd 10 _ hc rfl ⟨9, .data⟩ (by simp) rfl; rw [this] at hunF; cases hunF
      have h11 : L.getD 11 false = false := by
        cases hc : L.getD 11 false with
        | false => rfl
        | true => have := hd 11 _ hc rfl ⟨10, .data⟩ (by simp) rfl; rw [this] at h10; cases h10
      refine wpOp_enter (w' := W) (f := 186) (args := #[.int .i32 0, .int .i32 127]) rfl rfl (by go_simp) (HB.out 0 127 W) ?_
      rintro e w'' ⟨f, rfl, hbt, _, hbw⟩
      refine ⟨f, rfl, gm, f, hI.call h10 h11 (hI.bel.trans (hbw.mono hI.bel.size)) (fun h0 => hbw.block _ (hI.map_ h0).2.lt), fun _ => hbt.more (Nat.le_trans hbW.out.1.size hI.bel.size)⟩
    · -- 10
      injection ho with ho; subst ho
      have d9 : L.getD 9 false = true := haf ⟨9, .data⟩ (by simp) rfl
      obtain ⟨p1, p2, rfl, hp⟩ := hJ d9
      have ev := hI.ex 9 12 _ d9 rfl
      refine wpOp_val (v := form _ 1) rfl rfl (w' := W) (by go_simp; rfl) ⟨gm, _, hI.val (i := 10) hi21 rfl (by omega) hI.bel (fun _ => rfl), fun h => hJ (hJk _ (by omega) h)⟩
    · -- 11
      injection ho with ho; subst ho
      have d0 : L.getD 0 false = true := haf ⟨0, .data⟩ (by simp) rfl
      have d10 : L.getD 10 false = true := haf ⟨10, .data⟩ (by simp) rfl
      have e6 := hI.ex 0 6 _ d0 rfl
      have ex := hI.ex 10 13 _ d10 rfl
      have hin : (11, (22 : Int), form f22 1) ∈ insF f20 f26 f22 := by simp [insF]
      obtain ⟨hg0, hM⟩ := hI.map_ d0
      obtain ⟨W', hrun, h1, h2, h3, h4⟩ := hM.insert (t := 171) tMapF tIntF 22 (form f22 1) (mapF_none hin hunF)
      have hrun' : (Instr.mapUpdate 171 (.map (some gm)) (.int .i64 22) (form f22 1)).run Tryz.prog W = .ok () W' := hrun
      have HI := hI.ins hi21 hin d0 (h4 _ _ hg0 hI.bel) h1
      have HJ : (L.setIfInBounds 11 true).getD 9 false = true → IsBt w.heap.size W' 0 127 f22 := fun h => bt_but (hJ (hJk _ (by omega) h)) hM h3
      refine wpOp_skip rfl rfl (w' := W') ?_ ⟨gm, f22, HI, HJ⟩
      clear HI HJ h1 h2 h3 h4 hrun hin hI hd haf hJ hready hmm
      go_simp
    · -- 12
      injection ho with ho; subst ho
      have ev : a.eval (.tmp 2) = .pointer (some ⟨w1.heap.size, 0, none⟩) := by simp [Act.eval, s2]
      have hc : W.cell? ⟨w1.heap.size, 0, none⟩ = some f26 := (hI.bel.cell (p := ⟨w1.heap.size, 0, none⟩) (by rw [hszW.out]; simp)).trans hgb.out.1
      refine wpOp_val (v := f26) rfl rfl (w' := W) (by go_simp) ⟨gm, _, hI.val (i := 12) hi21 rfl (by omega) hI.bel (fun _ => rfl), fun h => hJ (hJk _ (by omega) h)⟩
    · -- 13
      injection ho with ho; subst ho
      have d12 : L.getD 12 false = true := haf ⟨12, .data⟩ (by simp) rfl
      have ev := hI.ex 12 14 _ d12 rfl
      rw [← HF26.out] at ev
      refine wpOp_val (v := form f26 1) rfl rfl (w' := W) (by rw [← HF26.out]; go_simp; rfl) ⟨gm, _, hI.val (i := 13) hi21 rfl (by omega) hI.bel (fun _ => rfl), fun h => hJ (hJk _ (by omega) h)⟩
    · -- 14
      injection ho with ho; subst ho
      have d0 : L.getD 0 false = true := haf ⟨0, .data⟩ (by simp) rfl
      have d13 : L.getD 13 false = true := haf ⟨13, .data⟩ (by simp) rfl
      have e6 := hI.ex 0 6 _ d0 rfl
      have ex := hI.ex 13 15 _ d13 rfl
      have hin : (14, (26 : Int), form f26 1) ∈ insF f20 f26 f22 := by simp [insF]
      obtain ⟨hg0, hM⟩ := hI.map_ d0
      obtain ⟨W', hrun, h1, h2, h3, h4⟩ := hM.insert (t := 171) tMapF tIntF 26 (form f26 1) (mapF_none hin hunF)
      have hrun' : (Instr.mapUpdate 171 (.map (some gm)) (.int .i64 26) (form f26 1)).run Tryz.prog W = .ok () W' := hrun
      have HI := hI.ins hi21 hin d0 (h4 _ _ hg0 hI.bel) h1
      have HJ : (L.setIfInBounds 14 true).getD 9 false = true → IsBt w.heap.size W' 0 127 f22 := fun h => bt_but (hJ (hJk _ (by omega) h)) hM h3
      refine wpOp_skip rfl rfl (w' := W') ?_ ⟨gm, f22, HI, HJ⟩
      clear HI HJ h1 h2 h3 h4 hrun hin hI hd haf hJ hready hmm
      go_simp
    · -- 15
      injection ho with ho; subst ho
      refine wpOp_val (v := form (fn 188) 4) rfl rfl (w' := W) (by go_simp; rfl) ⟨gm, _, hI.val (i := 15) hi21 rfl (by omega) hI.bel (fun _ => rfl), fun h => hJ (hJk _ (by omega) h)⟩
    · -- 16
      injection ho with ho; subst ho
      have d0 : L.getD 0 false = true := haf ⟨0, .data⟩ (by simp) rfl
      have d15 : L.getD 15 false = true := haf ⟨15, .data⟩ (by simp) rfl
      have e6 := hI.ex 0 6 _ d0 rfl
      have ex := hI.ex 15 16 _ d15 rfl
      have hin : (16, (28 : Int), form (fn 188) 4) ∈ insF f20 f26 f22 := by simp [insF]
      obtain ⟨hg0, hM⟩ := hI.map_ d0
      obtain ⟨W', hrun, h1, h2, h3, h4⟩ := hM.insert (t := 171) tMapF tIntF 28 (form (fn 188) 4) (mapF_none hin hunF)
      have hrun' : (Instr.mapUpdate 171 (.map (some gm)) (.int .i64 28) (form (fn 188) 4)).run Tryz.prog W = .ok () W' := hrun
      have HI := hI.ins hi21 hin d0 (h4 _ _ hg0 hI.bel) h1
      have HJ : (L.setIfInBounds 16 true).getD 9 false = true → IsBt w.heap.size W' 0 127 f22 := fun h => bt_but (hJ (hJk _ (by omega) h)) hM h3
      refine wpOp_skip rfl rfl (w' := W') ?_ ⟨gm, f22, HI, HJ⟩
      clear HI HJ h1 h2 h3 h4 hrun hin hI hd haf hJ hready hmm
      go_simp
    · -- 17
      injection ho with ho; subst ho
      refine wpOp_val (v := form (fn 189) 2) rfl rfl (w' := W) (by go_simp; rfl) ⟨gm, _, hI.val (i := 17) hi21 rfl (by omega) hI.bel (fun _ => rfl), fun h => hJ (hJk _ (by omega) h)⟩
    · -- 18
      injection ho with ho; subst ho
      have d0 : L.getD 0 false = true := haf ⟨0, .data⟩ (by simp) rfl
      have d17 : L.getD 17 false = true := haf ⟨17, .data⟩ (by simp) rfl
      have e6 := hI.ex 0 6 _ d0 rfl
      have ex := hI.ex 17 17 _ d17 rfl
      have hin : (18, (30 : Int), form (fn 189) 2) ∈ insF f20 f26 f22 := by simp [insF]
      obtain ⟨hg0, hM⟩ := hI.map_ d0
      obtain ⟨W', hrun, h1, h2, h3, h4⟩ := hM.insert (t := 171) tMapF tIntF 30 (form (fn 189) 2) (mapF_none hin hunF)
      have hrun' : (Instr.mapUpdate 171 (.map (some gm)) (.int .i64 30) (form (fn 189) 2)).run Tryz.prog W = .ok () W' := hrun
      have HI := hI.ins hi21 hin d0 (h4 _ _ hg0 hI.bel) h1
      have HJ : (L.setIfInBounds 18 true).getD 9 false = true → IsBt w.heap.size W' 0 127 f22 := fun h => bt_but (hJ (hJk _ (by omega) h)) hM h3
      refine wpOp_skip rfl rfl (w' := W') ?_ ⟨gm, f22, HI, HJ⟩
      clear HI HJ h1 h2 h3 h4 hrun hin hI hd haf hJ hready hmm
      go_simp
    · -- 19
      injection ho with ho; subst ho
      have d0 : L.getD 0 false = true := haf ⟨0, .data⟩ (by simp) rfl
      have ev := hI.ex 0 6 _ d0 rfl
      refine wpOp_val (v := .map (some gm)) rfl rfl (w' := W) (by go_simp) ⟨gm, _, hI.val (i := 19) hi21 rfl (by omega) hI.bel (fun _ => rfl), fun h => hJ (hJk _ (by omega) h)⟩
    · -- 20
      injection ho with ho; subst ho
      have d19 : L.getD 19 false = true := haf ⟨19, .data⟩ (by simp) rfl
      have ev := hI.ex 19 18 _ d19 rfl
      refine wpOp_val (v := .map (some gm)) rfl rfl (w' := W) (by go_simp) ⟨gm, _, hI.val (i := 20) hi21 rfl (by omega) hI.bel (fun _ => rfl), fun h => hJ (hJk _ (by omega) h)⟩
  case he =>
    intro L a W hd ⟨gm, f22, hI, hJ⟩ hr
    have hall := all_listedB (ops := _) (listed := L) (by kernel_rfl) (by rw [hI.sz]; decide) hr
    obtain ⟨hg0, hM⟩ := hI.map_ (hall 0 (by decide))
    have hb22 := hJ (hall 9 (by decide))
    have ht0 := hI.ex 20 0 _ (hall 20 (by decide)) rfl
    have hdf := hI.dfr
    have hbl := hI.bel
    have hMa : HasM intKey W gm (mapF f20 f26 f22 (fun _ => true)) := hM.congr fun n => by
      unfold mapF
      refine findSome_same (fun p hp => ?_)
      have : L.getD p.1 false = true := by
        have h21 : p.1 < 21 := by
          simp only [insF, List.mem_cons, List.mem_nil_iff, or_false] at hp
          rcases hp with rfl | rfl | rfl | rfl | rfl | rfl | rfl <;> (simp only; omega)
        exact hall _ (by exact h21)
      simp only [this]
    clear hI hJ hM hall hr hd
    go_wp2_with fail
    have sz := hbW.out.1.size
    refine bodyPost_ret (v := .map (some gm)) (by simp [results, Tryz.results144, ht0]) hdf ⟨gm, w1.heap.size, f26, f22, rfl, Nat.le_trans sz hg0, hbW.out.1.trans (hbl.mono sz), ?_, hbw1.size, hgb.out.2.below hbl (by rw [hszW.out]; omega), hbW.out.2.below hbl, hb22⟩
    rw [HF20.out]
    exact hMa
end Go.Proofs.YtlmnmgokfnnbbaaGreatDoor
end
