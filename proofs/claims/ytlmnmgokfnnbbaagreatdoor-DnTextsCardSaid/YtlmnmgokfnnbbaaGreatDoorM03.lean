/- The parts Pol, Attr, DnP, DnA of one proof, one behind the other. -/
import Derived.Test.YtlmnmgokfnnbbaaGreatDoorM01
import Derived.Test.YtlmnmgokfnnbbaaGreatDoorM02

/- Policies, qualifiers and mappings in memory. No program in sight. -/
section
set_option linter.unusedSimpArgs false
set_option linter.unusedVariables false
namespace Go.Cr
open Go.RowKit
abbrev Qual := ByteArray × List UInt8
abbrev Pol := ByteArray × List Qual
theorem take2_at {xs : List Value} {i : Nat} {a b : Value} (h : (xs.drop (i * 2)).take 2 = [a, b]) : xs[i * 2 + 0]? = some a ∧ xs[i * 2 + 1]? = some b := by
  have h0 := congrArg (fun l => l[0]?) h
  have h1 := congrArg (fun l => l[1]?) h
  simp [List.getElem?_take, List.getElem?_drop] at h0 h1
  exact ⟨by simpa using h0, h1⟩
def IsQs (w : World) (v : Value) (qs : List Qual) : Prop := ∃ xs, IsR w v 2 qs.length xs ∧ ∀ j (h : j < qs.length), ∃ u, (xs.drop (j * 2)).take 2 = [.string qs[j].1, u] ∧ IsB w u qs[j].2
def IsPs (w : World) (v : Value) (ps : List Pol) : Prop := ∃ xs, IsR w v 2 ps.length xs ∧ ∀ j (h : j < ps.length), ∃ u, (xs.drop (j * 2)).take 2 = [.string ps[j].1, u] ∧ IsQs w u ps[j].2
theorem IsQs.below {w w' : World} {v : Value} {qs : List Qual} (h : IsQs w v qs) (hb : Below w.heap.size w w') : IsQs w' v qs := by
  obtain ⟨xs, h1, h2⟩ := h
  refine ⟨xs, h1.below hb, fun j hj => ?_⟩
  obtain ⟨u, h3, h4⟩ := h2 j hj
  exact ⟨u, h3, h4.below hb⟩
theorem IsQs.alloc {w : World} {v : Value} {qs : List Qual} (h : IsQs w v qs) (o : Obj) : IsQs (w.alloc o) v qs := h.below ((Below.refl _ _).alloc (Nat.le_refl _) o)
theorem IsPs.below {w w' : World} {v : Value} {ps : List Pol} (h : IsPs w v ps) (hb : Below w.heap.size w w') : IsPs w' v ps := by
  obtain ⟨xs, h1, h2⟩ := h
  refine ⟨xs, h1.below hb, fun j hj => ?_⟩
  obtain ⟨u, h3, h4⟩ := h2 j hj
  exact ⟨u, h3, h4.below hb⟩
theorem IsPs.alloc {w : World} {v : Value} {ps : List Pol} (h : IsPs w v ps) (o : Obj) : IsPs (w.alloc o) v ps := h.below ((Below.refl _ _).alloc (Nat.le_refl _) o)
theorem isQs_slice {w : World} {v : Value} {qs : List Qual} (h : IsQs w v qs) : ∃ A c, v = .slice A qs.length c := by
  obtain ⟨xs, ⟨A, c, rfl, _⟩, _⟩ := h; exact ⟨A, c, rfl⟩
theorem IsQs.nil_ (w : World) : IsQs w (.slice none 0 0) [] := ⟨[], ⟨none, 0, rfl, Nat.le_refl _, by decide, rfl, fun h => absurd h (by simp)⟩, fun j h => absurd h (by simp)⟩
section
variable {P : Program} {w : World} {v : Value} {t e : TypeId}
theorem IsQs.len {qs : List Qual} (h : IsQs w v qs) (ht : P.underlying t = some (.slice e)) : ∀ (ty : TypeId) (W : World), (Builtin.len_ #[t] ty #[v]).run P W = .ok (.int .i64 qs.length) W := by
  obtain ⟨xs, h1, _⟩ := h; exact h1.len ht
theorem IsPs.len {ps : List Pol} (h : IsPs w v ps) (ht : P.underlying t = some (.slice e)) : ∀ (ty : TypeId) (W : World), (Builtin.len_ #[t] ty #[v]).run P W = .ok (.int .i64 ps.length) W := by
  obtain ⟨xs, h1, _⟩ := h; exact h1.len ht
theorem IsQs.maxl {qs : List Qual} (h : IsQs w v qs) : (qs.length : Int) ≤ 9223372036854775807 := by obtain ⟨xs, h1, _⟩ := h; exact h1.maxl
theorem IsPs.maxl {ps : List Pol} (h : IsPs w v ps) : (ps.length : Int) ≤ 9223372036854775807 := by obtain ⟨xs, h1, _⟩ := h; exact h1.maxl
theorem IsQs.at_ {qs : List Qual} (h : IsQs w v qs) (ht : P.underlying t = some (.slice e)) (hs : ∀ W, (sizeOf e).run P W = .ok 2 W) (kd : IntKind) (i : Nat) (h1 : i < qs.length) :
    ∃ b o A c, (∀ W : World, (Instr.indexAt t v (.int kd (i : Int))).run P W = .ok (.pointer (some ⟨b, o, none⟩)) W) ∧ b < w.heap.size ∧ w.cell? ⟨b, o, none⟩ = some (.string qs[i].1) ∧ w.cell? ⟨b, o + 1, none⟩ = some (.slice A qs[i].2.length c) ∧ IsB w (.slice A qs[i].2.length c) qs[i].2 := by
  obtain ⟨xs, hr, hx⟩ := h
  obtain ⟨u, hu, hB⟩ := hx i h1
  obtain ⟨b, o, hi, hb, hc⟩ := hr.at_ ht hs kd (i := (i : Int)) (by omega) (by omega)
  have h2 := take2_at hu
  rw [Int.toNat_natCast] at hc
  obtain ⟨A, c, _, rfl, _⟩ : ∃ A c, True ∧ u = .slice A qs[i].2.length c ∧ True := by obtain ⟨A, c, h, _⟩ := hB; exact ⟨A, c, trivial, h, trivial⟩
  exact ⟨b, o, A, c, hi, hb, by simpa using hc 0 _ h2.1, hc 1 _ h2.2, hB⟩
theorem IsPs.at_ {ps : List Pol} (h : IsPs w v ps) (ht : P.underlying t = some (.slice e)) (hs : ∀ W, (sizeOf e).run P W = .ok 2 W) (kd : IntKind) (i : Nat) (h1 : i < ps.length) :
    ∃ b o A c, (∀ W : World, (Instr.indexAt t v (.int kd (i : Int))).run P W = .ok (.pointer (some ⟨b, o, none⟩)) W) ∧ b < w.heap.size ∧ w.cell? ⟨b, o, none⟩ = some (.string ps[i].1) ∧ w.cell? ⟨b, o + 1, none⟩ = some (.slice A ps[i].2.length c) ∧ IsQs w (.slice A ps[i].2.length c) ps[i].2 := by
  obtain ⟨xs, hr, hx⟩ := h
  obtain ⟨u, hu, hB⟩ := hx i h1
  obtain ⟨b, o, hi, hb, hc⟩ := hr.at_ ht hs kd (i := (i : Int)) (by omega) (by omega)
  have h2 := take2_at hu
  rw [Int.toNat_natCast] at hc
  obtain ⟨A, c, rfl⟩ := isQs_slice hB
  exact ⟨b, o, A, c, hi, hb, by simpa using hc 0 _ h2.1, hc 1 _ h2.2, hB⟩
end
end Go.Cr
end

/- Attributes, plain: what Marshal writes, what Parse accepts, what the reference accepts. No program in sight. -/
section
set_option linter.unusedSimpArgs false
set_option linter.unusedVariables false
namespace Go.Cr
open Go.RowKit
def marA (s v : List UInt8) : Option (List UInt8) := match oidE s with
  | none => none
  | some c => if treeOK 16 v then some (encO 0 true 16 (encO 0 false 6 c ++ v)) else none

theorem marA_some {s v b : List UInt8} (h : marA s v = some b) : ∃ c, oidE s = some c ∧ treeOK 16 v ∧ b = encO 0 true 16 (encO 0 false 6 c ++ v) := by
  unfold marA at h
  split at h
  · cases h
  · rename_i c hc
    split at h
    · rename_i ht; injection h with h; exact ⟨c, hc, ht, h.symm⟩
    · cases h

def kidC (p : List UInt8) : List UInt8 := match nextH p with
  | .error _ => []
  | .ok h => if h.con then [] else cont p h
theorem kidC_enc (c n : Int) (l : List UInt8) (h : 0 ≤ c) (h1 : c ≤ 3) (h2 : 0 ≤ n) (h3 : n < 31) (hl : l.length ≤ 2147483647) : kidC (encO c false n l) = l := by
  have e1 := nextH_enc c n false l [] h h1 h2 h3 hl
  have e2 := cont_enc c n false l []
  rw [List.append_nil] at e1 e2
  unfold kidC
  rw [e1]
  simpa using e2

end Go.Cr
end

/- RDNs and names: what is parsed is what would be marshalled, and what the reference parses. No program in sight. -/
section
set_option linter.unusedSimpArgs false
set_option linter.unusedVariables false
namespace Go.Cr
open Go.RowKit
def optL {α β : Type} (f : α → Option β) : List α → Option (List β)
  | [] => some []
  | a :: t => match f a, optL f t with
    | some b, some bs => some (b :: bs)
    | _, _ => none
theorem optL_cons {α β : Type} {f : α → Option β} {a : α} {t : List α} {bs : List β} (h : optL f (a :: t) = some bs) : ∃ b u, f a = some b ∧ optL f t = some u ∧ bs = b :: u := by
  unfold optL at h
  split at h
  · rename_i b u h1 h2
    injection h with h
    exact ⟨b, u, h1, h2, h.symm⟩
  · cases h
theorem optL_len {α β : Type} {f : α → Option β} : ∀ {l : List α} {bs : List β}, optL f l = some bs → bs.length = l.length
  | [], bs, h => by injection h with h; subst h; rfl
  | a :: t, bs, h => by
    obtain ⟨b, u, _, h2, rfl⟩ := optL_cons h
    simp [optL_len h2]
theorem optL_at {α β : Type} {f : α → Option β} : ∀ {l : List α} {bs : List β}, optL f l = some bs → ∀ (i : Nat) (h1 : i < l.length) (h2 : i < bs.length), f l[i] = some bs[i]
  | [], bs, h, i, h1, h2 => by simp at h1
  | a :: t, bs, h, i, h1, h2 => by
    obtain ⟨b, u, e1, e2, rfl⟩ := optL_cons h
    cases i with
    | zero => exact e1
    | succ i => exact optL_at e2 i (by simpa using h1) (by simpa using h2)
theorem optL_none {α β : Type} {f : α → Option β} : ∀ {l : List α}, optL f l = none → ∃ i, ∃ h : i < l.length, f l[i] = none
  | [], h => by cases h
  | a :: t, h => by
    cases ha : f a with
    | none => exact ⟨0, by simp, ha⟩
    | some b =>
      cases ht : optL f t with
      | none =>
        obtain ⟨i, hi, he⟩ := optL_none ht
        exact ⟨i + 1, by simpa using hi, by simpa using he⟩
      | some u => unfold optL at h; rw [ha, ht] at h; cases h
abbrev At := ByteArray × List UInt8
abbrev Rdn := List At
def marX (a : At) : Option (List UInt8) := marA a.1.data.toList a.2
def conB (n : Int) (ls : List (List UInt8)) : List UInt8 := encO 0 true n ls.flatten
def marR (r : Rdn) : Option (List UInt8) := match optL marX r with
  | none => none
  | some ps => if r.length ≠ 0 ∧ ascB ps = true then some (conB 17 ps) else none
theorem marR_some {r : Rdn} {b : List UInt8} (h : marR r = some b) : ∃ ps, optL marX r = some ps ∧ r.length ≠ 0 ∧ ascB ps = true ∧ b = conB 17 ps := by
  unfold marR at h
  split at h
  · cases h
  · rename_i ps hp
    split at h
    · rename_i hc
      injection h with h
      exact ⟨ps, hp, hc.1, hc.2, h.symm⟩
    · cases h
/-! ### Names. -/
abbrev Nam := List Rdn
def marNm (n : Nam) : Option (List UInt8) := match optL marR n with
  | none => none
  | some ps => some (conB 16 ps)
/-! ### The reference's. -/
end Go.Cr
end

/- RDNs and names in memory. No program in sight. -/
section
set_option linter.unusedSimpArgs false
set_option linter.unusedVariables false
namespace Go.Cr
open Go.RowKit
theorem isAs_of {S : Nat → Prop} {w : World} {v : Value} {r : Rdn} (h : IsL repA S w v r) : IsQs w v r := by
  obtain ⟨xs, h1, h2⟩ := h
  refine ⟨xs, h1.isR, fun j hj => ?_⟩
  obtain ⟨u, e, hu⟩ := h2.2 j hj
  exact ⟨u, e, hu.isR.bytes⟩
def IsNm (w : World) (v : Value) (n : Nam) : Prop := ∃ xs, IsR w v 1 n.length xs ∧ ∀ j (_ : j < n.length), IsQs w (xs.getD j undef) n[j]
theorem IsNm.below {w w' : World} {v : Value} {n : Nam} (h : IsNm w v n) (hb : Below w.heap.size w w') : IsNm w' v n := by
  obtain ⟨xs, h1, h2⟩ := h
  exact ⟨xs, h1.below hb, fun j hj => (h2 j hj).below hb⟩
theorem IsNm.alloc {w : World} {v : Value} {n : Nam} (h : IsNm w v n) (o : Obj) : IsNm (w.alloc o) v n := h.below ((Below.refl _ _).alloc (Nat.le_refl _) o)
theorem isNm_slice {w : World} {v : Value} {n : Nam} (h : IsNm w v n) : ∃ A c, v = .slice A n.length c := by
  obtain ⟨xs, ⟨A, c, rfl, _⟩, _⟩ := h; exact ⟨A, c, rfl⟩
theorem IsNm.nil_ (w : World) : IsNm w (.slice none 0 0) [] := ⟨[], ⟨none, 0, rfl, Nat.le_refl _, by decide, rfl, fun h => absurd h (by simp)⟩, fun j h => absurd h (by simp)⟩
theorem IsNm.maxl {w : World} {v : Value} {n : Nam} (h : IsNm w v n) : (n.length : Int) ≤ 9223372036854775807 := by obtain ⟨xs, h1, _⟩ := h; exact h1.maxl
theorem IsNm.len {P : Program} {w : World} {v : Value} {t e : TypeId} {n : Nam} (h : IsNm w v n) (ht : P.underlying t = some (.slice e)) : ∀ (ty : TypeId) (W : World), (Builtin.len_ #[t] ty #[v]).run P W = .ok (.int .i64 n.length) W := by
  obtain ⟨xs, h1, _⟩ := h; exact h1.len ht
theorem IsNm.at_ {P : Program} {w : World} {v : Value} {t e : TypeId} {n : Nam} (h : IsNm w v n) (ht : P.underlying t = some (.slice e)) (hs : ∀ W, (sizeOf e).run P W = .ok 1 W) (kd : IntKind) (i : Nat) (h1 : i < n.length) :
    ∃ b o A c, (∀ W : World, (Instr.indexAt t v (.int kd (i : Int))).run P W = .ok (.pointer (some ⟨b, o, none⟩)) W) ∧ b < w.heap.size ∧ w.cell? ⟨b, o, none⟩ = some (.slice A n[i].length c) ∧ IsQs w (.slice A n[i].length c) n[i] := by
  obtain ⟨xs, hr, hx⟩ := h
  have hB := hx i h1
  obtain ⟨b, o, hi, hb, hc⟩ := hr.at_ ht hs kd (i := (i : Int)) (by omega) (by omega)
  rw [Int.toNat_natCast] at hc
  have hl : i < xs.length := by obtain ⟨_, _, _, _, _, hl, _⟩ := hr; omega
  obtain ⟨A, c, hv⟩ := isQs_slice hB
  rw [hv] at hB
  refine ⟨b, o, A, c, hi, hb, ?_, hB⟩
  have := hc 0 (xs.getD i undef) (by simp [hl])
  rw [hv] at this
  simpa using this
theorem isNm_of {S : Nat → Prop} {w : World} {v : Value} {n : Nam} (h : IsL (repL repA) S w v n) : IsNm w v n := by
  obtain ⟨xs, h1, h2⟩ := h
  refine ⟨xs, h1.isR, fun j hj => ?_⟩
  obtain ⟨u, e, hu⟩ := h2.2 j hj
  have hk : (repL repA).k = 1 := rfl
  have hl := h2.1
  rw [hk] at e hl
  have h3 := congrArg (fun l => l[0]?) e
  simp [List.getElem?_take, List.getElem?_drop] at h3
  have e2 : xs.getD j undef = u := by simp [h3]
  rw [e2]
  exact isAs_of hu
theorem part_newD {w W : World} {base : Nat} {t e : TypeId} {u v : Value} {l : List UInt8} {ls : List (List UInt8)} (h : OwB w W.heap.size t u l) (hv : OwP W base e v ls) (hb : base ≤ W.heap.size) : IsRS (But base v.ownBlock) w u 1 l.length (bCells l) := by
  obtain ⟨xs, h1, _⟩ := hv
  exact part_new h hb h1
theorem IsRS.below {S : Nat → Prop} {w w' : World} {v : Value} {k n : Nat} {xs : List Value} (h : IsRS S w v k n xs) (hb : Below w.heap.size w w') : IsRS S w' v k n xs := h.keep hb.size fun b hlt _ => hb.block b hlt
theorem IsRS.alloc {S : Nat → Prop} {w : World} {v : Value} {k n : Nat} {xs : List Value} (h : IsRS S w v k n xs) (o : Obj) : IsRS S (w.alloc o) v k n xs := h.below ((Below.refl _ _).alloc (Nat.le_refl _) o)
theorem isR_oneD {w : World} {t : TypeId} {u : Value} : IsR (w.alloc (.cells #[u] t)) (.slice (some ⟨w.heap.size, 0, none⟩) 1 1) 1 1 [u] :=
  ⟨_, 1, rfl, Nat.le_refl _, by decide, rfl, fun _ => ⟨w.heap.size, 0, rfl, by simp, fun j x hj => by rw [Nat.zero_add, World.cell?_alloc_new]; simpa using hj⟩⟩
end Go.Cr
end
