/- Walks over Ordered of the program and Sorted of the reference. -/
import Derived.Test.YtecbphbnacbepaaOrd
import Derived.Test.YtecbphbnacbepaaAwake
set_option linter.unusedSimpArgs false
set_option linter.unusedVariables false
namespace Go.Proofs.Ytecbphbnacbepaa
open Go.RowKit Go.Cr

theorem below_cell {W W' : World} (hb : Below W.heap.size W W') {b o : Nat} {u : Value} (hlt : b < W.heap.size) (h : W.cell? ⟨b, o, none⟩ = some u) : W'.cell? ⟨b, o, none⟩ = some u := (hb.cell hlt).trans h

set_option maxRecDepth 100000 in
set_option maxHeartbeats 2000000 in
theorem pOrdered (v : Value) (ls : List (List UInt8)) (w : World) (hv : IsBs w v ls) : Calls Try.prog 30 #[v] w (RetB (.bool (ascB ls)) w) := by
  have h1 := hv.len ulBs
  have hmx := hv.maxl
  have HA := Lib.hid hv
  clear hv
  go_enter Try.func30, Try.ntmps30
  go_wp2
  go_loopw [6] (fun i wr => OrRel ls w 0 i wr) (fun i _ => ls.length - (intOf i).toNat)
  case atStart => exact ⟨0, by omega, by omega, rfl, fun j hj => absurd hj (by omega), Below.refl _ _⟩
  case round =>
    obtain ⟨k, hk, hk1, rfl, hall, hbel⟩ := hrel
    have HL := Lib.hid hall
    clear hall
    by_cases hlt : (k : Int) < ls.length
    · by_cases h0 : k = 0
      · subst h0
        have hd : decide ((0 : Int) < ((0 : Nat) : Int)) = false := rfl
        go_wp2
        go_quiet (fail)
        go_wp2
        go_roundw
        case rel => exact ⟨0 + 1, by omega, by omega, by go_num, fun j hj => absurd hj (by omega), by ((repeat' (first | (with_reducible exact Below.refl _ _) | (with_reducible assumption) | (with_reducible refine Below.setCell ?_ ?_ _) | (with_reducible refine Below.alloc ?_ ?_ _) | (with_reducible refine Below.drew ?_) | (with_reducible refine below_drewN ?_ _) | (with_reducible refine Below.step (by with_reducible assumption) ?_ ?_))) <;> (first | omega | (simp; done) | (simp; omega)))⟩
        case measure => simp [intOf]; omega
      · have hpos : (0 : Int) < (k : Int) := by omega
        have hpos' : 0 < k := by omega
        obtain ⟨b1, o1, u1, hi1, hb1, hc1, hu1⟩ := (HA.out.below hbel).at_ (P := Try.prog) ulBs szBs .i64 (i := (k : Int) - 1) (by omega) (by omega)
        obtain ⟨b2, o2, u2, hi2, hb2, hc2, hu2⟩ := (HA.out.below hbel).at_ (P := Try.prog) ulBs szBs .i64 (i := k) (by omega) hlt
        simp only [Int.toNat_natCast] at hu2
        rw [show ((k : Int) - 1).toNat = k - 1 by omega] at hu1
        have HC := Lib.hid (fun n => pCompare u1 u2 _ _ (wr.drewN n) (hu1.drewN n) (hu2.drewN n))
        have hsub : IntKind.i64.wrap ((k : Int) - 1) = (k : Int) - 1 := IntWalk.i64_in _ (by omega)
        clear hu1 hu2
        have hvals := cmpL_vals (ls.getD (k - 1) []) (ls.getD k [])
        have HE : Hid (∀ c : Int, cmpL (ls.getD (k - 1) []) (ls.getD k []) = c → (c < 0 → ∀ j, j + 1 < k + 1 → cmpL (ls.getD j []) (ls.getD (j + 1) []) < 0) ∧ (¬ c < 0 → ascB ls = false)) := by
          intro c hc
          refine ⟨fun h0 j hj => ?_, fun h0 => ?_⟩
          · rcases Nat.lt_or_ge (j + 1) k with h | h
            · exact HL.out j h
            · obtain rfl : j = k - 1 := by omega
              rw [show k - 1 + 1 = k by omega, hc]; exact h0
          · cases hb : ascB ls with
            | false => rfl
            | true =>
              have := ascB_at.1 hb (k - 1) (by omega)
              rw [show k - 1 + 1 = k by omega, hc] at this
              exact absurd this h0
        generalize cmpL (ls.getD (k - 1) []) (ls.getD k []) = c at *
        have HE2 := Lib.hid (HE.out c rfl)
        clear HE
        rcases hvals with rfl | rfl | rfl
        · go_wp2
          go_quiet (first | (go_at_call 42; exact Calls.quiet_of_same (HC.out _)))
          go_wp2
          go_roundw
          case rel => exact ⟨k + 1, by omega, by omega, by go_num, HE2.out.1 (by omega), by ((repeat' (first | (with_reducible exact Below.refl _ _) | (with_reducible assumption) | (with_reducible refine Below.setCell ?_ ?_ _) | (with_reducible refine Below.alloc ?_ ?_ _) | (with_reducible refine Below.drew ?_) | (with_reducible refine below_drewN ?_ _) | (with_reducible refine Below.step (by with_reducible assumption) ?_ ?_))) <;> (first | omega | (simp; done) | (simp; omega)))⟩
          case measure => simp [intOf]; omega
        · rw [HE2.out.2 (by omega)]
          go_wp2
          go_quiet (first | (go_at_call 42; exact Calls.quiet_of_same (HC.out _)))
          go_wp2
          (refine bodyPost_retB (v := .bool false) (by (simp only [results, Try.results30]; try go_simp)) rfl rfl ?_; ((repeat' (first | (with_reducible exact Below.refl _ _) | (with_reducible assumption) | (with_reducible refine Below.setCell ?_ ?_ _) | (with_reducible refine Below.alloc ?_ ?_ _) | (with_reducible refine Below.drew ?_) | (with_reducible refine below_drewN ?_ _) | (with_reducible refine Below.step (by with_reducible assumption) ?_ ?_))) <;> (first | omega | (simp; done) | (simp; omega))))
        · rw [HE2.out.2 (by omega)]
          go_wp2
          go_quiet (first | (go_at_call 42; exact Calls.quiet_of_same (HC.out _)))
          go_wp2
          (refine bodyPost_retB (v := .bool false) (by (simp only [results, Try.results30]; try go_simp)) rfl rfl ?_; ((repeat' (first | (with_reducible exact Below.refl _ _) | (with_reducible assumption) | (with_reducible refine Below.setCell ?_ ?_ _) | (with_reducible refine Below.alloc ?_ ?_ _) | (with_reducible refine Below.drew ?_) | (with_reducible refine below_drewN ?_ _) | (with_reducible refine Below.step (by with_reducible assumption) ?_ ?_))) <;> (first | omega | (simp; done) | (simp; omega))))
    · have hb : ascB ls = true := ascB_at.2 fun j hj => HL.out j (by omega)
      rw [hb]
      go_wp2
      (refine bodyPost_retB (v := .bool true) (by (simp only [results, Try.results30]; try go_simp)) rfl rfl ?_; ((repeat' (first | (with_reducible exact Below.refl _ _) | (with_reducible assumption) | (with_reducible refine Below.setCell ?_ ?_ _) | (with_reducible refine Below.alloc ?_ ?_ _) | (with_reducible refine Below.drew ?_) | (with_reducible refine below_drewN ?_ _) | (with_reducible refine Below.step (by with_reducible assumption) ?_ ?_))) <;> (first | omega | (simp; done) | (simp; omega))))

/-! ### Sorted of the reference -/
theorem infoBs : (Try.prog.info? 30).map (fun i => (i.zero, i.size, i.bytes)) = some (some (.slice none 0 0), 1, 24) := by kernel_rfl
def lenOfV : Value → Nat
  | .slice _ n _ => n
  | _ => 0
theorem lenOfV_own {w : World} {base : Nat} {e : TypeId} {size : Nat} {v : Value} {n : Nat} {xs : List Value} (h : w.ownsRow base e size v n xs) : lenOfV v = n := by
  rcases h.2 with ⟨rfl, rfl⟩ | ⟨g, cap, cur, rfl, _⟩ <;> rfl
theorem asc_len {ls : List (List UInt8)} : ∀ {r : List (List UInt8)}, Asc r → (∀ x ∈ r, x ∈ ls) → r.length ≤ ls.length := by
  intro r
  induction r generalizing ls with
  | nil => intro _ _; simp
  | cons x t ih =>
    intro h1 h2
    have hx := h2 x (by simp)
    have := ih (ls := ls.erase x) h1.tail (fun y hy => (List.mem_erase_of_ne (fun e => by subst e; exact cmpL_irrefl y (h1.lt y hy))).2 (h2 y (List.mem_cons_of_mem _ hy)))
    rw [List.length_erase_of_mem hx] at this
    have := List.length_pos_of_mem hx
    simp; omega
theorem Beg.len {ls r : List (List UInt8)} (h : Beg ls r) : r.length ≤ ls.length := asc_len h.1 h.2.1
theorem Beg.room {ls r : List (List UInt8)} {x : List UInt8} (h : Beg ls r) (hx : x ∈ ls) (hb : Behind r x) : r.length < ls.length := by
  have := asc_len (ls := ls) (h.1.snoc (hb.all h.1)) (fun y hy => by
    rcases List.mem_append.1 hy with e | e
    · exact h.2.1 y e
    · simp at e; subst e; exact hx)
  rw [List.length_append] at this
  simp only [List.length_cons, List.length_nil] at this
  omega
/-- r's values, in the world in which the call began. -/
def EltB (w : World) (vs : List Value) (r : List (List UInt8)) : Prop := vs.length = r.length ∧ ∀ j, j < r.length → IsB w (vs.getD j undef) (r.getD j [])
theorem EltB.snoc {w : World} {vs : List Value} {r : List (List UInt8)} {u : Value} {l : List UInt8} (h : EltB w vs r) (hu : IsB w u l) : EltB w (vs ++ [u]) (r ++ [l]) := by
  refine ⟨by simp [h.1], fun j hj => ?_⟩
  have hj' : j < r.length + 1 := by simpa using hj
  rcases Nat.lt_or_ge j r.length with h1 | h1
  · have := h.2 j h1
    simpa [List.getD, List.getElem?_append_left h1, List.getElem?_append_left (show j < vs.length by rw [h.1]; exact h1)] using this
  · obtain rfl : j = r.length := by omega
    have h2 : (vs ++ [u])[r.length]? = some u := by rw [← h.1]; simp
    simpa [List.getD, h2] using hu
def SoRel (ls : List (List UInt8)) (w : World) (out : Value) (wr : World) : Prop :=
  ∃ r vs, wr.ownsRow w.heap.size 30 1 out r.length vs ∧ EltB w vs r ∧ Beg ls r ∧ Below w.heap.size w wr
def Best (ls r : List (List UInt8)) (k : Nat) (best : Int) : Prop :=
  (best = -1 ∧ ∀ j, j < k → ¬ Behind r (ls.getD j [])) ∨ (∃ m : Nat, m < k ∧ best = m ∧ Behind r (ls.getD m []) ∧ ∀ j, j < k → Behind r (ls.getD j []) → ¬ cmpL (ls.getD j []) (ls.getD m []) < 0)
theorem Best.skip {ls r : List (List UInt8)} {k : Nat} {best : Int} (h : Best ls r k best) (hn : ¬ Behind r (ls.getD k [])) : Best ls r (k + 1) best := by
  rcases h with ⟨h1, h2⟩ | ⟨m, hm, h1, h2, h3⟩
  · refine .inl ⟨h1, fun j hj => ?_⟩
    rcases Nat.lt_or_ge j k with h | h
    · exact h2 j h
    · obtain rfl : j = k := by omega
      exact hn
  · refine .inr ⟨m, by omega, h1, h2, fun j hj hb => ?_⟩
    rcases Nat.lt_or_ge j k with h | h
    · exact h3 j h hb
    · obtain rfl : j = k := by omega
      exact absurd hb hn
theorem Best.first {ls r : List (List UInt8)} {k : Nat} (h : Best ls r k (-1)) (hb : Behind r (ls.getD k [])) : Best ls r (k + 1) k := by
  rcases h with ⟨_, h2⟩ | ⟨m, _, h1, _⟩
  · refine .inr ⟨k, by omega, rfl, hb, fun j hj hbj => ?_⟩
    rcases Nat.lt_or_ge j k with h | h
    · exact absurd hbj (h2 j h)
    · obtain rfl : j = k := by omega
      exact cmpL_irrefl _
  · omega
theorem Best.less {ls r : List (List UInt8)} {k m : Nat} (h : Best ls r k m) (hb : Behind r (ls.getD k [])) (hlt : cmpL (ls.getD k []) (ls.getD m []) < 0) : Best ls r (k + 1) k := by
  rcases h with ⟨h1, _⟩ | ⟨m', hm, h1, h2, h3⟩
  · omega
  · obtain rfl : m = m' := by omega
    refine .inr ⟨k, by omega, rfl, hb, fun j hj hbj => ?_⟩
    rcases Nat.lt_or_ge j k with h | h
    · intro hjk
      exact h3 j h hbj (cmpL_trans hjk hlt)
    · obtain rfl : j = k := by omega
      exact cmpL_irrefl _
theorem Best.stay {ls r : List (List UInt8)} {k m : Nat} (h : Best ls r k m) (hn : ¬ cmpL (ls.getD k []) (ls.getD m []) < 0) : Best ls r (k + 1) m := by
  rcases h with ⟨h1, _⟩ | ⟨m', hm, h1, h2, h3⟩
  · omega
  · obtain rfl : m = m' := by omega
    refine .inr ⟨m, by omega, rfl, h2, fun j hj hbj => ?_⟩
    rcases Nat.lt_or_ge j k with h | h
    · exact h3 j h hbj
    · obtain rfl : j = k := by omega
      exact hn
def BsRel (ls r : List (List UInt8)) (W : World) (best i : Value) (wr : World) : Prop :=
  ∃ (k : Nat) (b : Int), k ≤ ls.length ∧ i = .int .i64 k ∧ best = .int .i64 b ∧ -1 ≤ b ∧ b < k ∧ Best ls r k b ∧ Below W.heap.size W wr
end Go.Proofs.Ytecbphbnacbepaa
