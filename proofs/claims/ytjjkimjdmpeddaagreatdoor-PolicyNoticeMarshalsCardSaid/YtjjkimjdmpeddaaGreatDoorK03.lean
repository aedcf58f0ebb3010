/- The parts Pol, Attr, EachP of one proof, one behind the other. -/
import Derived.Test.YtjjkimjdmpeddaaGreatDoorK01
import Derived.Test.YtjjkimjdmpeddaaGreatDoorK02

/- Policies, qualifiers and mappings in memory. No program in sight. -/
section
set_option linter.unusedSimpArgs false
set_option linter.unusedVariables false
namespace Go.Cr
open Go.RowKit
abbrev Qual := ByteArray × List UInt8
abbrev Pol := ByteArray × List Qual
theorem take2_at {xs : List Value} {i : Nat} {a b : Value} (h : (xs.drop (i * 2)).take 2 = [a, b]) : xs[i * 2 + 0]? = some a ∧ xs[i * 2 + 1]? = some b := by
  have h0 := congrArg (fun l => l[0]?) h
  have h1 := congrArg (fun l => l[1]?) h
  simp [List.getElem?_take, List.getElem?_drop] at h0 h1
  exact ⟨by simpa using h0, h1⟩
def IsQs (w : World) (v : Value) (qs : List Qual) : Prop := ∃ xs, IsR w v 2 qs.length xs ∧ ∀ j (h : j < qs.length), ∃ u, (xs.drop (j * 2)).take 2 = [.string qs[j].1, u] ∧ IsB w u qs[j].2
def IsPs (w : World) (v : Value) (ps : List Pol) : Prop := ∃ xs, IsR w v 2 ps.length xs ∧ ∀ j (h : j < ps.length), ∃ u, (xs.drop (j * 2)).take 2 = [.string ps[j].1, u] ∧ IsQs w u ps[j].2
theorem IsQs.below {w w' : World} {v : Value} {qs : List Qual} (h : IsQs w v qs) (hb : Below w.heap.size w w') : IsQs w' v qs := by
  obtain ⟨xs, h1, h2⟩ := h
  refine ⟨xs, h1.below hb, fun j hj => ?_⟩
  obtain ⟨u, h3, h4⟩ := h2 j hj
  exact ⟨u, h3, h4.below hb⟩
theorem IsQs.alloc {w : World} {v : Value} {qs : List Qual} (h : IsQs w v qs) (o : Obj) : IsQs (w.alloc o) v qs := h.below ((Below.refl _ _).alloc (Nat.le_refl _) o)
theorem IsPs.below {w w' : World} {v : Value} {ps : List Pol} (h : IsPs w v ps) (hb : Below w.heap.size w w') : IsPs w' v ps := by
  obtain ⟨xs, h1, h2⟩ := h
  refine ⟨xs, h1.below hb, fun j hj => ?_⟩
  obtain ⟨u, h3, h4⟩ := h2 j hj
  exact ⟨u, h3, h4.below hb⟩
theorem IsPs.alloc {w : World} {v : Value} {ps : List Pol} (h : IsPs w v ps) (o : Obj) : IsPs (w.alloc o) v ps := h.below ((Below.refl _ _).alloc (Nat.le_refl _) o)
theorem isQs_slice {w : World} {v : Value} {qs : List Qual} (h : IsQs w v qs) : ∃ A c, v = .slice A qs.length c := by
  obtain ⟨xs, ⟨A, c, rfl, _⟩, _⟩ := h; exact ⟨A, c, rfl⟩
theorem isPs_slice {w : World} {v : Value} {ps : List Pol} (h : IsPs w v ps) : ∃ A c, v = .slice A ps.length c := by
  obtain ⟨xs, ⟨A, c, rfl, _⟩, _⟩ := h; exact ⟨A, c, rfl⟩
theorem IsQs.nil_ (w : World) : IsQs w (.slice none 0 0) [] := ⟨[], ⟨none, 0, rfl, Nat.le_refl _, by decide, rfl, fun h => absurd h (by simp)⟩, fun j h => absurd h (by simp)⟩
section
variable {P : Program} {w : World} {v : Value} {t e : TypeId}
theorem IsQs.len {qs : List Qual} (h : IsQs w v qs) (ht : P.underlying t = some (.slice e)) : ∀ (ty : TypeId) (W : World), (Builtin.len_ #[t] ty #[v]).run P W = .ok (.int .i64 qs.length) W := by
  obtain ⟨xs, h1, _⟩ := h; exact h1.len ht
theorem IsPs.len {ps : List Pol} (h : IsPs w v ps) (ht : P.underlying t = some (.slice e)) : ∀ (ty : TypeId) (W : World), (Builtin.len_ #[t] ty #[v]).run P W = .ok (.int .i64 ps.length) W := by
  obtain ⟨xs, h1, _⟩ := h; exact h1.len ht
theorem IsQs.maxl {qs : List Qual} (h : IsQs w v qs) : (qs.length : Int) ≤ 9223372036854775807 := by obtain ⟨xs, h1, _⟩ := h; exact h1.maxl
theorem IsPs.maxl {ps : List Pol} (h : IsPs w v ps) : (ps.length : Int) ≤ 9223372036854775807 := by obtain ⟨xs, h1, _⟩ := h; exact h1.maxl
theorem IsQs.at_ {qs : List Qual} (h : IsQs w v qs) (ht : P.underlying t = some (.slice e)) (hs : ∀ W, (sizeOf e).run P W = .ok 2 W) (kd : IntKind) (i : Nat) (h1 : i < qs.length) :
    ∃ b o A c, (∀ W : World, (Instr.indexAt t v (.int kd (i : Int))).run P W = .ok (.pointer (some ⟨b, o, none⟩)) W) ∧ b < w.heap.size ∧ w.cell? ⟨b, o, none⟩ = some (.string qs[i].1) ∧ w.cell? ⟨b, o + 1, none⟩ = some (.slice A qs[i].2.length c) ∧ IsB w (.slice A qs[i].2.length c) qs[i].2 := by
  obtain ⟨xs, hr, hx⟩ := h
  obtain ⟨u, hu, hB⟩ := hx i h1
  obtain ⟨b, o, hi, hb, hc⟩ := hr.at_ ht hs kd (i := (i : Int)) (by omega) (by omega)
  have h2 := take2_at hu
  rw [Int.toNat_natCast] at hc
  obtain ⟨A, c, _, rfl, _⟩ : ∃ A c, True ∧ u = .slice A qs[i].2.length c ∧ True := by obtain ⟨A, c, h, _⟩ := hB; exact ⟨A, c, trivial, h, trivial⟩
  exact ⟨b, o, A, c, hi, hb, by simpa using hc 0 _ h2.1, hc 1 _ h2.2, hB⟩
theorem IsPs.at_ {ps : List Pol} (h : IsPs w v ps) (ht : P.underlying t = some (.slice e)) (hs : ∀ W, (sizeOf e).run P W = .ok 2 W) (kd : IntKind) (i : Nat) (h1 : i < ps.length) :
    ∃ b o A c, (∀ W : World, (Instr.indexAt t v (.int kd (i : Int))).run P W = .ok (.pointer (some ⟨b, o, none⟩)) W) ∧ b < w.heap.size ∧ w.cell? ⟨b, o, none⟩ = some (.string ps[i].1) ∧ w.cell? ⟨b, o + 1, none⟩ = some (.slice A ps[i].2.length c) ∧ IsQs w (.slice A ps[i].2.length c) ps[i].2 := by
  obtain ⟨xs, hr, hx⟩ := h
  obtain ⟨u, hu, hB⟩ := hx i h1
  obtain ⟨b, o, hi, hb, hc⟩ := hr.at_ ht hs kd (i := (i : Int)) (by omega) (by omega)
  have h2 := take2_at hu
  rw [Int.toNat_natCast] at hc
  obtain ⟨A, c, rfl⟩ := isQs_slice hB
  exact ⟨b, o, A, c, hi, hb, by simpa using hc 0 _ h2.1, hc 1 _ h2.2, hB⟩
end
def okQ (q : Qual) : Bool := (arcsL q.1.data.toList).isSome && decide (treeOK 16 q.2)
def freshP (ps : List Pol) : Nat → Bool := fun i => !((ps.take i).any fun p => decide (p.1 = (ps.getD i default).1))
def okP1 (ps : List Pol) (i : Nat) : Bool := (arcsL (ps.getD i default).1.data.toList).isSome && freshP ps i && (ps.getD i default).2.all okQ
def okP (ps : List Pol) : Bool := decide (0 < ps.length) && (List.range ps.length).all (okP1 ps)
def SzQ (q : Qual) : Prop := q.1.size ≤ 100000 ∧ q.2.length ≤ 10000
def SzP (ps : List Pol) : Prop := ps.length ≤ 10000 ∧ ∀ p ∈ ps, p.1.size ≤ 100000 ∧ p.2.length ≤ 10000 ∧ ∀ q ∈ p.2, SzQ q
end Go.Cr
end

/- Attributes, plain: what Marshal writes, what Parse accepts, what the reference accepts. No program in sight. -/
section
set_option linter.unusedSimpArgs false
set_option linter.unusedVariables false
namespace Go.Cr
open Go.RowKit
def kidC (p : List UInt8) : List UInt8 := match nextH p with
  | .error _ => []
  | .ok h => if h.con then [] else cont p h
def kidsA (b : List UInt8) : List (List UInt8) := if treeOK 60 b then kidsT 59 b else []
theorem kidC_enc (c n : Int) (l : List UInt8) (h : 0 ≤ c) (h1 : c ≤ 3) (h2 : 0 ≤ n) (h3 : n < 31) (hl : l.length ≤ 2147483647) : kidC (encO c false n l) = l := by
  have e1 := nextH_enc c n false l [] h h1 h2 h3 hl
  have e2 := cont_enc c n false l []
  rw [List.append_nil] at e1 e2
  unfold kidC
  rw [e1]
  simpa using e2

end Go.Cr
end

/- Elements of a SEQUENCE, element OBJECT IDENTIFIER: plain. No program in sight. -/
section
set_option linter.unusedSimpArgs false
set_option linter.unusedVariables false
namespace Go.Cr
open Go.RowKit
def seqB (ls : List (List UInt8)) : List UInt8 := encO 0 true 16 ls.flatten
def eachL (least most : Nat) (b : List UInt8) : Option (List (List UInt8)) := match partsE b 0 16 with
  | .error _ => none
  | .ok xs => if least ≤ xs.length ∧ xs.length ≤ most then some (segsE b xs) else none
def idL (y : List UInt8) : Option (List UInt8) := match oneE y with
  | .error _ => none
  | .ok x => if isE x 0 false 6 then oidD (seg y x.body x.stop) else none
theorem segsE_len (b : List UInt8) (xs : List Elem) : (segsE b xs).length = xs.length := by simp [segsE]
theorem eachL_ok {least most : Nat} {b : List UInt8} {ls : List (List UInt8)} (h : eachL least most b = some ls) : b = seqB ls ∧ least ≤ ls.length ∧ ls.length ≤ most ∧ ∀ p ∈ ls, ∃ x, oneE p = .ok x := by
  unfold eachL at h
  split at h
  · cases h
  · rename_i xs hp
    split at h
    · rename_i hn
      injection h with h
      subst h
      obtain ⟨hb, _, _, _, _, hall⟩ := partsE_ok hp
      refine ⟨hb, by rw [segsE_len]; exact hn.1, by rw [segsE_len]; exact hn.2, fun p hp => ?_⟩
      unfold segsE at hp
      obtain ⟨x, hx, rfl⟩ := List.mem_map.1 hp
      exact ⟨_, (hall x hx).2.2.2.2⟩
    · cases h
theorem eachL_seq {least most : Nat} {ls : List (List UInt8)} (hl : ls.flatten.length ≤ 2147483647) (h1 : least ≤ ls.length) (h2 : ls.length ≤ most) (h : ∀ p ∈ ls, ∃ x, oneE p = .ok x) : eachL least most (seqB ls) = some ls := by
  obtain ⟨xs, hp, hs⟩ := partsE_enc 0 16 ls (by decide) (by decide) (by decide) (by decide) hl h
  have hn : xs.length = ls.length := by rw [← hs, segsE_len]
  unfold eachL seqB
  rw [hp]
  simp only
  rw [if_pos (by omega), hs]
theorem seqB_len (ls : List (List UInt8)) : ls.flatten.length < (seqB ls).length := by
  have := encO_len 0 16 true ls.flatten
  unfold seqB
  omega
theorem seqB_one (ls : List (List UInt8)) (hl : (seqB ls).length ≤ 1000000) : ∃ x, oneE (seqB ls) = .ok x := by
  have hL := seqB_len ls
  unfold seqB at hl hL ⊢
  exact ⟨_, oneE_enc 0 16 true _ (by decide) (by decide) (by decide) (by decide) (by omega)⟩
theorem mem_flat_len {α : Type} {ls : List (List α)} {p : List α} (h : p ∈ ls) : p.length ≤ ls.flatten.length := by
  induction ls with
  | nil => cases h
  | cons x t ih =>
    simp only [List.flatten_cons, List.length_append]
    rcases List.mem_cons.1 h with rfl | h
    · omega
    · have := ih h; omega
theorem cnt_flat {ls : List (List UInt8)} (h : ∀ p ∈ ls, ∃ x, oneE p = .ok x) : ls.length ≤ ls.flatten.length := by
  induction ls with
  | nil => simp
  | cons p t ih =>
    obtain ⟨x, hx⟩ := h p (by simp)
    have hb := oneE_ok hx
    have := ih fun q hq => h q (by simp [hq])
    simp only [List.length_cons, List.flatten_cons, List.length_append]
    omega
/-! ### What the reference reads. -/
theorem kids_seq {d : Nat} (ls : List (List UInt8)) (hl : (seqB ls).length ≤ 1000000) (h : ∀ p ∈ ls, treeOK d p) : treeOK (d + 1) (seqB ls) ∧ kidsT d (seqB ls) = ls := by
  have a := seqB_len ls
  exact ⟨treeOK_con 0 16 ls (by decide) (by decide) (by decide) (by decide) (by omega) h, kidsT_con 0 16 ls (by decide) (by decide) (by decide) (by decide) (by omega) h⟩
end Go.Cr
end
