/- The parts MapI of one proof, one behind the other. -/
import Derived.Test.YtlmnmgokfnnbbaaGreatDoorQ01
import Derived.MapKept
import Derived.Maps.RangeRun

/- Maps in memory, by the values of their keys. No program in sight. -/
section
set_option linter.unusedSimpArgs false
set_option linter.unusedVariables false
namespace Go.Cr
open Go.RowKit
structure KeyOf (d : TypeDesc) (κ : Type) [DecidableEq κ] where
  val : κ → Value
  un : Value → Option κ
  un_val : ∀ k, un (val k) = some k
  same : ∀ a b, Instr.sameNow d (val a) (val b) = some (decide (a = b))
  key : ∀ k, MapKept.IsKey d (val k)
def intKey : KeyOf (.int .i64) Int where
  val := .int .i64
  un v := match v with | .int .i64 n => some n | _ => none
  un_val _ := rfl
  same a b := by simp [Instr.sameNow]; rfl
  key k := by simp [MapKept.IsKey]

def strKey : KeyOf .string ByteArray where
  val := .string
  un v := match v with | .string s => some s | _ => none
  un_val _ := rfl
  same a b := by
    simp only [Instr.sameNow, Option.some.injEq]
    by_cases h : a = b
    · subst h; rw [decide_eq_true rfl]; exact (MapKept.bytes_beq a a).2 rfl
    · rw [decide_eq_false h]
      cases hb : (a == b) with
      | false => rfl
      | true => exact absurd ((MapKept.bytes_beq a b).1 hb) h
  key k := by simp [MapKept.IsKey]

variable {d : TypeDesc} {κ : Type} [DecidableEq κ]
def lookL (K : KeyOf d κ) : List MapEntry → κ → Option Value
  | [], _ => none
  | e :: t, n => if K.un e.key = some n then some e.val else lookL K t n
theorem lookL_app (K : KeyOf d κ) (l : List MapEntry) (e : MapEntry) (n : κ) : lookL K (l ++ [e]) n = match lookL K l n with | some v => some v | none => if K.un e.key = some n then some e.val else none := by
  induction l with
  | nil => simp [lookL]
  | cons x t ih =>
    simp only [List.cons_append, lookL]
    split
    · rfl
    · exact ih
theorem findNow_look (K : KeyOf d κ) (n : κ) : ∀ (l : List MapEntry) (i : Nat), (∀ e ∈ l, ∃ m, e.key = K.val m) →
    (lookL K l n = none ∧ Instr.findNow d (K.val n) l i = some none) ∨ ∃ v j, lookL K l n = some v ∧ Instr.findNow d (K.val n) l i = some (some (j, v)) := by
  intro l
  induction l with
  | nil => intro i _; exact .inl ⟨rfl, rfl⟩
  | cons e t ih =>
    intro i h
    obtain ⟨m, hm⟩ := h e (by simp)
    by_cases hmn : n = m
    · subst hmn
      refine .inr ⟨e.val, i, by simp [lookL, hm, K.un_val], ?_⟩
      simp [Instr.findNow, hm, K.same]
    · have hne : ¬ (m = n) := fun h => hmn h.symm
      rcases ih (i + 1) (fun e he => h e (by simp [he])) with ⟨h1, h2⟩ | ⟨v, j, h1, h2⟩
      · exact .inl ⟨by simp [lookL, hm, K.un_val, hne, h1], by simp [Instr.findNow, hm, K.same, hmn, h2]⟩
      · exact .inr ⟨v, j, by simp [lookL, hm, K.un_val, hne, h1], by simp [Instr.findNow, hm, K.same, hmn, h2]⟩

structure Ent (K : KeyOf d κ) (l : List MapEntry) (clock : Nat) (F : κ → Option Value) : Prop where
  keys : ∀ e ∈ l, ∃ m, e.key = K.val m
  look : ∀ n, lookL K l n = F n
  born : ∀ e ∈ l, e.born < clock
  nodup : (l.map (·.born)).Nodup
  holds : ∀ e ∈ l, ∀ n, e.key = K.val n → F n = some e.val
def HasM (K : KeyOf d κ) (w : World) (g : Nat) (F : κ → Option Value) : Prop := ∃ es clock, w.heap[g]? = some (.map es clock) ∧ Ent K es.toList clock F
theorem HasM.new (K : KeyOf d κ) (w : World) : HasM K (w.alloc (.map #[] 0)) w.heap.size (fun _ => none) := ⟨#[], 0, heap_alloc_new w _, ⟨by simp, fun n => rfl, by simp, by simp, by simp⟩⟩
theorem HasM.keep {K : KeyOf d κ} {w w' : World} {g : Nat} {F : κ → Option Value} (h : HasM K w g F) (he : w'.heap[g]? = w.heap[g]?) : HasM K w' g F := by
  obtain ⟨es, clock, hb, r⟩ := h
  exact ⟨es, clock, he.trans hb, r⟩
theorem HasM.congr {K : KeyOf d κ} {w : World} {g : Nat} {F G : κ → Option Value} (h : HasM K w g F) (e : ∀ n, F n = G n) : HasM K w g G := by
  have : F = G := funext e
  rw [← this]; exact h
theorem HasM.lt {K : KeyOf d κ} {w : World} {g : Nat} {F : κ → Option Value} (h : HasM K w g F) : g < w.heap.size := by
  obtain ⟨es, clock, hb, r⟩ := h
  exact (Array.getElem?_eq_some_iff.1 hb).1
theorem HasM.insert {K : KeyOf d κ} {P : Program} {w : World} {g : Nat} {F : κ → Option Value} {t kt et : TypeId} (h : HasM K w g F) (hm : P.underlying t = some (.map kt et)) (hk : P.underlying kt = some d) (k : κ) (v : Value) (hF : F k = none) :
    ∃ w', (Instr.mapUpdate t (.map (some g)) (K.val k) v).run P w = .ok () w' ∧ HasM K w' g (fun n => if n = k then some v else F n) ∧ w'.heap.size = w.heap.size ∧ (∀ r, r ≠ g → w'.heap[r]? = w.heap[r]?) ∧ (∀ B W0, B ≤ g → Below B W0 w → Below B W0 w') := by
  obtain ⟨es, clock, hb, ⟨hks, hl, hbn, hnd, hho⟩⟩ := h
  have hfn : Instr.findNow d (K.val k) es.toList 0 = some none := by
    rcases findNow_look K k es.toList 0 hks with ⟨_, h2⟩ | ⟨v', j, h1, _⟩
    · exact h2
    · rw [hl k, hF] at h1; cases h1
  have hc : (Instr.checkKey false 10000 kt (K.val k)).run P w = .ok () w := MapKept.run_checkKey (k := K.val k) hk (K.key k) false 9999
  refine ⟨{ w with heap := w.heap.setIfInBounds g (.map (es.push { key := K.val k, val := v, born := clock }) (clock + 1)) }, ?_, ⟨_, _, (MapKept.heap_set hb).1, ?_, fun n => ?_, ?_, ?_, ?_⟩, by simp, fun r hr => (MapKept.heap_set hb).2 r hr, fun B W0 hB hbl => ?_⟩
  · simp [Instr.mapUpdate, run_underlying hm, MapKept.run_getObj_map hb, hc, MapKept.run_findKey hk hfn, MapKept.run_setObj_map _ hb, Result.andThen]
  · intro e he
    simp only [Array.toList_push, List.mem_append, List.mem_singleton] at he
    rcases he with he | rfl
    · exact hks e he
    · exact ⟨k, rfl⟩
  · rw [Array.toList_push, lookL_app, hl n, K.un_val]
    by_cases hnk : n = k
    · subst hnk; rw [hF]; simp
    · have hnk' : ¬ (k = n) := fun h => hnk h.symm
      cases hFn : F n with
      | some v => simp [hnk, hFn]
      | none => simp [hnk, hnk', hFn]
  · intro e he
    simp only [Array.toList_push, List.mem_append, List.mem_singleton] at he
    rcases he with he | rfl
    · exact Nat.lt_succ_of_lt (hbn e he)
    · exact Nat.lt_succ_self _
  · rw [Array.toList_push, List.map_append, List.nodup_append]
    refine ⟨hnd, by simp, ?_⟩
    intro a ha b hb' e
    simp only [List.map_cons, List.map_nil, List.mem_singleton] at hb'
    subst hb' e
    obtain ⟨x, hx, hxa⟩ := List.mem_map.1 ha
    have := hbn x hx
    omega
  · intro e he n hen
    simp only [Array.toList_push, List.mem_append, List.mem_singleton] at he
    rcases he with he | rfl
    · have h1 := hho e he n hen
      have hne : ¬ (n = k) := fun h => by subst h; rw [hF] at h1; cases h1
      simp only [if_neg hne]
      exact h1
    · have : k = n := by
        have h1 := K.un_val k
        simp only at hen
        rw [hen, K.un_val] at h1
        injection h1 with h1
        exact h1.symm
      subst this
      simp
  · refine ⟨hbl.os, hbl.tape, hbl.output, by simpa using hbl.size, fun i hi => ?_⟩
    exact ((MapKept.heap_set hb).2 i (by omega)).trans (hbl.block i hi)
theorem HasM.look {K : KeyOf d κ} {P : Program} {w : World} {g : Nat} {F : κ → Option Value} {t kt et : TypeId} {z : Value} (h : HasM K w g F) (hm : P.underlying t = some (.map kt et)) (hk : P.underlying kt = some d) (hz : (zeroValue et).run P w = .ok z w) (k : κ) (ok : Bool) :
    (Instr.lookup t (.map (some g)) (K.val k) ok).run P w = .ok (if ok then .tuple #[(F k).getD z, .bool (F k).isSome] else (F k).getD z) w := by
  obtain ⟨es, clock, hb, ⟨hks, hl, _⟩⟩ := h
  have hc : ∀ e, (Instr.checkKey e 10000 kt (K.val k)).run P w = .ok () w := fun e => MapKept.run_checkKey (k := K.val k) hk (K.key k) e 9999
  rcases findNow_look K k es.toList 0 hks with ⟨h1, h2⟩ | ⟨v', j, h1, h2⟩
  · rw [hl k] at h1
    rw [h1]
    cases ok <;> simp [Instr.lookup, run_underlying hm, MapKept.run_getObj_map hb, hc, MapKept.run_findKey hk h2, Result.andThen, hz]
  · rw [hl k] at h1
    rw [h1]
    cases ok <;> simp [Instr.lookup, run_underlying hm, MapKept.run_getObj_map hb, hc, MapKept.run_findKey hk h2, Result.andThen]

/-! ### Ranging over such a map. -/
def RangeM (K : KeyOf d κ) (w : World) (g r : Nat) (F : κ → Option Value) (pre : List κ) : Prop :=
  ∃ es clock seen c0, w.heap[g]? = some (.map es clock) ∧ w.heap[r]? = some (.mapIter (some g) clock seen c0) ∧ clock ≤ c0 ∧ r ≠ g ∧ Ent K es.toList clock F ∧
    (∀ e ∈ es.toList, seen.contains e.born = true → ∃ k ∈ pre, e.key = K.val k)
def leftM (w : World) (g r : Nat) : Nat := match w.heap[g]?, w.heap[r]? with | some (.map es _), some (.mapIter _ _ seen _) => (leftOf es seen).size | _, _ => 0

theorem HasM.range {K : KeyOf d κ} {P : Program} {w : World} {g : Nat} {F : κ → Option Value} {t kt et : TypeId} (h : HasM K w g F) (hm : P.underlying t = some (.map kt et)) :
    ∃ w', (Instr.range t (.map (some g))).run P w = .ok (.pointer (some ⟨w.heap.size, 0, none⟩)) w' ∧ RangeM K w' g w.heap.size F [] ∧ w'.heap.size = w.heap.size + 1 ∧ (∀ B W0, B ≤ w.heap.size → Below B W0 w → Below B W0 w') := by
  have hlt := h.lt
  obtain ⟨es, clock, hb, hE⟩ := h
  refine ⟨_, run_range_map w t kt et g es clock hm hb, ⟨es, clock, #[], clock, ((MapKept.heap_alloc w _).2 g hlt).trans hb, (MapKept.heap_alloc w _).1, Nat.le_refl _, by omega, hE, by simp⟩, by simp, fun B W0 hB hbl => hbl.alloc hB _⟩

theorem RangeM.next {K : KeyOf d κ} {P : Program} {w : World} {g r : Nat} {F : κ → Option Value} {pre : List κ} (h : RangeM K w g r F pre) (ty : TypeId) :
    ((∀ k v, F k = some v → k ∈ pre) ∧ (Instr.next (.pointer (some ⟨r, 0, none⟩)) false ty).run P w = .ok (.tuple #[.bool false]) w) ∨
    ∃ k v w', F k = some v ∧ (Instr.next (.pointer (some ⟨r, 0, none⟩)) false ty).run P w = .ok (.tuple #[.bool true, K.val k, v]) w' ∧ RangeM K w' g r F (pre ++ [k]) ∧
      (Instr.entry (.pointer (some ⟨r, 0, none⟩))).run P w' = .ok (.tuple #[K.val k, v]) w' ∧ leftM w' g r < leftM w g r ∧ w'.heap.size = w.heap.size ∧ (∀ B W0, B ≤ r → Below B W0 w → Below B W0 w') := by
  obtain ⟨es, clock, seen, c0, hb, hr, hc, hne, hE, hseen⟩ := h
  rcases run_next_at (P := P) w ty r g clock c0 seen es clock hr hb hE.born hc with ⟨h0, hrun⟩ | ⟨e, he, w1, hw1, hrun⟩
  · refine .inl ⟨fun k v hk => ?_, hrun⟩
    have hl := hE.look k
    rw [hk] at hl
    have : ∃ e ∈ es.toList, e.key = K.val k := by
      clear hseen h0 hrun hb hr
      have hkeys := hE.keys
      generalize es.toList = l at *
      clear hE
      induction l with
      | nil => cases hl
      | cons x t ih =>
        unfold lookL at hl
        obtain ⟨m, hm⟩ := hkeys x (by simp)
        by_cases hx : K.un x.key = some k
        · refine ⟨x, by simp, ?_⟩
          rw [hm, K.un_val] at hx
          injection hx with hx
          rw [hm, hx]
        · rw [if_neg hx] at hl
          obtain ⟨e, he, hek⟩ := ih hl (fun e he => hkeys e (by simp [he]))
          exact ⟨e, by simp [he], hek⟩
    obtain ⟨e, he, hek⟩ := this
    obtain ⟨k', hk', hek'⟩ := hseen e he (all_seen es seen h0 e he)
    have : k = k' := by
      have h1 := K.un_val k
      rw [← hek, hek', K.un_val] at h1
      injection h1 with h1
      exact h1.symm
    subst this
    exact hk'
  · obtain ⟨hem, hes⟩ := mem_left he
    obtain ⟨k, hk⟩ := hE.keys e hem
    have hb1 : w1.heap[g]? = some (.map es clock) := by rcases hw1 with rfl | rfl <;> exact hb
    have hr1 : w1.heap[r]? = some (.mapIter (some g) clock seen c0) := by rcases hw1 with rfl | rfl <;> exact hr
    have hrlt : r < w1.heap.size := (Array.getElem?_eq_some_iff.1 hr1).1
    have hs1 : w1.heap.size = w.heap.size := by rcases hw1 with rfl | rfl <;> rfl
    have hg2 : (ChangeMaps.setBlock w1 r (.mapIter (some g) clock (seen.push e.born) clock)).heap[g]? = some (.map es clock) := by
      simp only [ChangeMaps.setBlock]
      rw [Array.getElem?_setIfInBounds_ne hne]
      exact hb1
    have hr2 : (ChangeMaps.setBlock w1 r (.mapIter (some g) clock (seen.push e.born) clock)).heap[r]? = some (.mapIter (some g) clock (seen.push e.born) clock) := by
      simp only [ChangeMaps.setBlock]
      simp [Array.getElem?_setIfInBounds, hrlt]
    refine .inr ⟨k, e.val, _, hE.holds e hem k hk, by rw [hrun, hk], ⟨es, clock, seen.push e.born, clock, hg2, hr2, Nat.le_refl _, hne, hE, fun x hx hsx => ?_⟩, ?_, ?_, ?_, fun B W0 hB hbl => ?_⟩
    · rw [contains_push, Bool.or_eq_true] at hsx
      rcases hsx with h1 | h1
      · obtain ⟨k', hk', hx'⟩ := hseen x hx h1
        exact ⟨k', by simp [hk'], hx'⟩
      · have : x = e := born_inj hE.nodup hx hem (by simpa using h1)
        subst this
        exact ⟨k, by simp, hk⟩
    · have := run_entry_at (P := P) (ChangeMaps.setBlock w1 r (.mapIter (some g) clock (seen.push e.born) clock)) r g clock seen es clock e hr2 hg2 hem hE.nodup
      rw [this, hk]
    · unfold leftM
      rw [hg2, hr2, hb, hr]
      exact left_shrinks es seen e he
    · simp [ChangeMaps.setBlock, hs1]
    · have hbl1 : Below B W0 w1 := by
        rcases hw1 with rfl | rfl
        · exact hbl
        · exact hbl.drew
      refine ⟨hbl1.os, hbl1.tape, hbl1.output, by simpa [ChangeMaps.setBlock] using hbl1.size, fun i hi => ?_⟩
      simp only [ChangeMaps.setBlock]
      rw [Array.getElem?_setIfInBounds_ne (by omega)]
      exact hbl1.block i hi
end Go.Cr
end
