/- The parts NewK of one proof, one behind the other. -/
import Derived.Test.YtlmnmgokfnnbbaaGreatDoorQ38
import Derived.Test.YtlmnmgokfnnbbaaGreatDoorQ34

/- Lists of attributes that are put together. -/
section
set_option linter.unusedSimpArgs false
set_option linter.unusedVariables false
namespace Go.Proofs.YtlmnmgokfnnbbaaGreatDoor
open Go.RowKit Go.Cr
def RowQ (w : World) (xs : List Value) (qs : Rdn) : Prop := xs.length = qs.length * 2 ∧ ∀ j (h : j < qs.length), ∃ u, (xs.drop (j * 2)).take 2 = [.string qs[j].1, u] ∧ IsB w u qs[j].2
theorem RowQ.below {w w' : World} {xs : List Value} {qs : Rdn} (h : RowQ w xs qs) (hb : Below w.heap.size w w') : RowQ w' xs qs := ⟨h.1, fun j hj => by obtain ⟨u, e, hu⟩ := h.2 j hj; exact ⟨u, e, hu.below hb⟩⟩
theorem RowQ.app {w : World} {xs ys : List Value} {a b : Rdn} (h1 : RowQ w xs a) (h2 : RowQ w ys b) : RowQ w (xs ++ ys) (a ++ b) := by
  refine ⟨by simp [h1.1, h2.1, Nat.add_mul], fun j hj => ?_⟩
  by_cases hja : j < a.length
  · obtain ⟨u, e, hu⟩ := h1.2 j hja
    have hg : (a ++ b)[j] = a[j] := List.getElem_append_left hja
    rw [hg]
    refine ⟨u, ?_, hu⟩
    rw [List.drop_append_of_le_length (by rw [h1.1]; omega), List.take_append_of_le_length (by rw [List.length_drop, h1.1]; omega)]
    exact e
  · have hjb : j - a.length < b.length := by simp at hj; omega
    obtain ⟨u, e, hu⟩ := h2.2 (j - a.length) hjb
    have hg : (a ++ b)[j] = b[j - a.length] := List.getElem_append_right (by omega)
    rw [hg]
    refine ⟨u, ?_, hu⟩
    rw [List.drop_append, List.drop_eq_nil_of_le (by rw [h1.1]; omega), List.nil_append, h1.1, show j * 2 - a.length * 2 = (j - a.length) * 2 by omega]
    exact e
theorem RowQ.one {w : World} {xs : List Value} {qs : Rdn} (h : RowQ w xs qs) : ∀ u ∈ xs, u.oneCell' = true := by
  intro x hx
  obtain ⟨i, hi, rfl⟩ := List.mem_iff_getElem.1 hx
  have hl := h.1
  obtain ⟨u, e, hu⟩ := h.2 (i / 2) (by omega)
  obtain ⟨A, c, rfl⟩ := isB_slice hu
  have hm : xs[i] ∈ (xs.drop (i / 2 * 2)).take 2 := by
    rw [List.mem_iff_getElem]
    refine ⟨i - i / 2 * 2, by rw [List.length_take, List.length_drop]; omega, ?_⟩
    rw [List.getElem_take, List.getElem_drop]
    congr 1
    omega
  rw [e] at hm
  simp only [List.mem_cons, List.not_mem_nil, or_false] at hm
  rcases hm with h | h <;> rw [h] <;> rfl
theorem isQs_row {w : World} {v : Value} {qs : Rdn} (h : IsQs w v qs) : ∃ xs, IsR w v 2 qs.length xs ∧ RowQ w xs qs := by
  obtain ⟨xs, h1, h2⟩ := h
  refine ⟨xs, h1, ?_, h2⟩
  obtain ⟨A, c, _, _, _, hl, _⟩ := h1
  exact hl
theorem infoAtO : (Tryz.prog.info? 58).map (fun i => (i.zero, i.size, i.bytes)) = some (some (.agg #[.string ⟨#[]⟩, .slice none 0 0]), 2, 40) := by kernel_rfl
theorem wpList_appQ {ops : Array Oper} {rest : List Oper} {o : Oper} {a : Act} {Q : Exit → Act → World → Prop} (hgd : o.guard = none) (s y : Operand)
    (ho : o.op = .call { callee := .builtin .append, args := #[s, y], argTypes := #[29, 29] }) (w0 : World) (ob : Obj) (v : Value) (a0 : Rdn) (xs : List Value) (hs : a.eval s = v)
    (hown : (w0.alloc ob).ownsRow w0.heap.size 58 2 v a0.length xs) (h0 : RowQ w0 xs a0) (x : Value) (ms : Rdn) (hyx : a.eval y = x) (hx : IsQs w0 x ms) (hl : a0.length + ms.length ≤ 1000)
    (h : ∀ v' w', IsQs w' v' (a0 ++ ms) → Below w0.heap.size w0 w' → wpList Tryz.prog ops Q rest (a.put o.dst v') w') : wpList Tryz.prog ops Q (o :: rest) a (w0.alloc ob) := by
  obtain ⟨j0, hj0, hy0, hy1, hy2⟩ := info_parts infoAtO
  obtain ⟨ys, hr, hq⟩ := isQs_row hx
  refine wpList_app _ hgd s y 29 ho w0.heap.size 58 j0 (.agg #[.string ⟨#[]⟩, .slice none 0 0]) 2 40 ulAts hj0 hy0 hy1 hy2 rfl (by decide) v a0.length xs hs hown x ms.length ys hyx (hr.alloc _) hq.one (by unfold maxLen; omega) (by omega) (by simp) ?_
  intro v' w' hrow hg hb
  have hbw : Below w0.heap.size w0 w' := ((Below.refl w0.heap.size w0).alloc (Nat.le_refl _) ob).trans hb
  refine h v' w' ⟨xs ++ ys, ?_, ((h0.below hbw).app (hq.below hbw)).2⟩ hbw
  have := IsR.of_own hrow
  rw [List.length_append]
  exact this
theorem litQ0 (W : World) : (W.alloc (.cells #[] 58)).ownsRow W.heap.size 58 2 (.slice (some ⟨W.heap.size, 0, none⟩) 0 0) ([] : Rdn).length [] := by
  have := World.ownsRow_lit (base := W.heap.size) (e := 58) (size := 2) W #[] 0 (Nat.le_refl _) (by decide) rfl
  simpa using this
theorem litQ1 (W : World) (s : ByteArray) (u : Value) (l : List UInt8) : (W.alloc (.cells #[.string s, u] 58)).ownsRow W.heap.size 58 2 (.slice (some ⟨W.heap.size, 0, none⟩) 1 1) [(s, l)].length [.string s, u] := by
  have := World.ownsRow_lit (base := W.heap.size) (e := 58) (size := 2) W #[.string s, u] 1 (Nat.le_refl _) (by decide) rfl
  simpa using this
theorem szR_mix {l ms : Rdn} (h : FwR l) (hm : ∀ a ∈ ms, a ∈ l) (hl : ms.length ≤ 100) : SzR ms := by
  have hs : sumV ms ≤ 1000 * ms.length := by
    clear hl
    induction ms with
    | nil => simp [sumV]
    | cons a t ih =>
      have h1 := ih fun x hx => hm x (by simp [hx])
      have h2 := (h.2.1 a (hm a (by simp))).2
      have h3 : sumV (a :: t) = a.2.length + sumV t := by simp [sumV]
      simp only [List.length_cons, Nat.mul_add]
      omega
  refine ⟨by omega, fun a ha => ?_, fun ps ho => ?_⟩
  · have := h.2.1 a (hm a ha)
    unfold FewA at this
    omega
  · have := optX_flat ho fun a ha => (h.2.1 a (hm a ha)).1
    omega
theorem marX_few {l ms : Rdn} (h : FwR l) (hm : ∀ a ∈ ms, a ∈ l) {ps : List (List UInt8)} (ho : optL marX ms = some ps) : ∀ y ∈ ps, y.length ≤ 4000 := fun y hy => by
  obtain ⟨a, ha, he⟩ := (optL_mem ho y).1 hy
  have h1 : optL marX [a] = some [y] := by simp [optL, he]
  have h2 := optX_flat h1 fun x hx => by
    simp only [List.mem_singleton] at hx
    subst hx
    exact (h.2.1 x (hm x ha)).1
  have h3 := (h.2.1 a (hm a ha)).2
  have h4 : sumV [a] = a.2.length := by simp [sumV]
  simp at h2
  omega
theorem optX_mix {l ms : Rdn} {ps : List (List UInt8)} (ho : optL marX l = some ps) (hm : ∀ a ∈ ms, a ∈ l) : ∃ qs, optL marX ms = some qs := optL_all fun a ha => by
  obtain ⟨i, hi, rfl⟩ := List.mem_iff_getElem.1 (hm a ha)
  rw [optL_at ho i hi (by rw [optL_len ho]; exact hi)]
  rfl
end Go.Proofs.YtlmnmgokfnnbbaaGreatDoor
end
