/- The parts Pol, Attr, EachP of one proof, one behind the other. -/
import Derived.Test.YtjjkimjdmpeddaaGreatDoorJ01
import Derived.Test.YtjjkimjdmpeddaaGreatDoorJ02
import Derived.Test.YtjjkimjdmpeddaaGreatDoorJ03

/- Policies, qualifiers and mappings in memory. No program in sight. -/
section
set_option linter.unusedSimpArgs false
set_option linter.unusedVariables false
namespace Go.Cr
open Go.RowKit

abbrev Qual := ByteArray × List UInt8
abbrev Pol := ByteArray × List Qual
theorem take2_at {xs : List Value} {i : Nat} {a b : Value} (h : (xs.drop (i * 2)).take 2 = [a, b]) : xs[i * 2 + 0]? = some a ∧ xs[i * 2 + 1]? = some b := by
  have h0 := congrArg (fun l => l[0]?) h
  have h1 := congrArg (fun l => l[1]?) h
  simp [List.getElem?_take, List.getElem?_drop] at h0 h1
  exact ⟨by simpa using h0, h1⟩
/-- v reads as the qualifiers qs. -/
def IsQs (w : World) (v : Value) (qs : List Qual) : Prop := ∃ xs, IsR w v 2 qs.length xs ∧ ∀ j (h : j < qs.length), ∃ u, (xs.drop (j * 2)).take 2 = [.string qs[j].1, u] ∧ IsB w u qs[j].2
/-- v reads as the policies ps. -/
def IsPs (w : World) (v : Value) (ps : List Pol) : Prop := ∃ xs, IsR w v 2 ps.length xs ∧ ∀ j (h : j < ps.length), ∃ u, (xs.drop (j * 2)).take 2 = [.string ps[j].1, u] ∧ IsQs w u ps[j].2
theorem IsQs.below {w w' : World} {v : Value} {qs : List Qual} (h : IsQs w v qs) (hb : Below w.heap.size w w') : IsQs w' v qs := by
  obtain ⟨xs, h1, h2⟩ := h
  refine ⟨xs, h1.below hb, fun j hj => ?_⟩
  obtain ⟨u, h3, h4⟩ := h2 j hj
  exact ⟨u, h3, h4.below hb⟩
theorem IsQs.alloc {w : World} {v : Value} {qs : List Qual} (h : IsQs w v qs) (o : Obj) : IsQs (w.alloc o) v qs := h.below ((Below.refl _ _).alloc (Nat.le_refl _) o)
theorem IsPs.below {w w' : World} {v : Value} {ps : List Pol} (h : IsPs w v ps) (hb : Below w.heap.size w w') : IsPs w' v ps := by
  obtain ⟨xs, h1, h2⟩ := h
  refine ⟨xs, h1.below hb, fun j hj => ?_⟩
  obtain ⟨u, h3, h4⟩ := h2 j hj
  exact ⟨u, h3, h4.below hb⟩
theorem IsPs.alloc {w : World} {v : Value} {ps : List Pol} (h : IsPs w v ps) (o : Obj) : IsPs (w.alloc o) v ps := h.below ((Below.refl _ _).alloc (Nat.le_refl _) o)
theorem isQs_slice {w : World} {v : Value} {qs : List Qual} (h : IsQs w v qs) : ∃ A c, v = .slice A qs.length c := by
  obtain ⟨xs, ⟨A, c, rfl, _⟩, _⟩ := h; exact ⟨A, c, rfl⟩
theorem isPs_slice {w : World} {v : Value} {ps : List Pol} (h : IsPs w v ps) : ∃ A c, v = .slice A ps.length c := by
  obtain ⟨xs, ⟨A, c, rfl, _⟩, _⟩ := h; exact ⟨A, c, rfl⟩
theorem IsQs.nil_ (w : World) : IsQs w (.slice none 0 0) [] := ⟨[], ⟨none, 0, rfl, Nat.le_refl _, by decide, rfl, fun h => absurd h (by simp)⟩, fun j h => absurd h (by simp)⟩
section
variable {P : Program} {w : World} {v : Value} {t e : TypeId}
theorem IsQs.len {qs : List Qual} (h : IsQs w v qs) (ht : P.underlying t = some (.slice e)) : ∀ (ty : TypeId) (W : World), (Builtin.len_ #[t] ty #[v]).run P W = .ok (.int .i64 qs.length) W := by
  obtain ⟨xs, h1, _⟩ := h; exact h1.len ht
theorem IsPs.len {ps : List Pol} (h : IsPs w v ps) (ht : P.underlying t = some (.slice e)) : ∀ (ty : TypeId) (W : World), (Builtin.len_ #[t] ty #[v]).run P W = .ok (.int .i64 ps.length) W := by
  obtain ⟨xs, h1, _⟩ := h; exact h1.len ht
theorem IsQs.maxl {qs : List Qual} (h : IsQs w v qs) : (qs.length : Int) ≤ 9223372036854775807 := by obtain ⟨xs, h1, _⟩ := h; exact h1.maxl
theorem IsPs.maxl {ps : List Pol} (h : IsPs w v ps) : (ps.length : Int) ≤ 9223372036854775807 := by obtain ⟨xs, h1, _⟩ := h; exact h1.maxl
theorem IsQs.at_ {qs : List Qual} (h : IsQs w v qs) (ht : P.underlying t = some (.slice e)) (hs : ∀ W, (sizeOf e).run P W = .ok 2 W) (kd : IntKind) (i : Nat) (h1 : i < qs.length) :
    ∃ b o A c, (∀ W : World, (Instr.indexAt t v (.int kd (i : Int))).run P W = .ok (.pointer (some ⟨b, o, none⟩)) W) ∧ b < w.heap.size ∧ w.cell? ⟨b, o, none⟩ = some (.string qs[i].1) ∧ w.cell? ⟨b, o + 1, none⟩ = some (.slice A qs[i].2.length c) ∧ IsB w (.slice A qs[i].2.length c) qs[i].2 := by
  obtain ⟨xs, hr, hx⟩ := h
  obtain ⟨u, hu, hB⟩ := hx i h1
  obtain ⟨b, o, hi, hb, hc⟩ := hr.at_ ht hs kd (i := (i : Int)) (by omega) (by omega)
  have h2 := take2_at hu
  rw [Int.toNat_natCast] at hc
  obtain ⟨A, c, _, rfl, _⟩ : ∃ A c, True ∧ u = .slice A qs[i].2.length c ∧ True := by obtain ⟨A, c, h, _⟩ := hB; exact ⟨A, c, trivial, h, trivial⟩
  exact ⟨b, o, A, c, hi, hb, by simpa using hc 0 _ h2.1, hc 1 _ h2.2, hB⟩
theorem IsPs.at_ {ps : List Pol} (h : IsPs w v ps) (ht : P.underlying t = some (.slice e)) (hs : ∀ W, (sizeOf e).run P W = .ok 2 W) (kd : IntKind) (i : Nat) (h1 : i < ps.length) :
    ∃ b o A c, (∀ W : World, (Instr.indexAt t v (.int kd (i : Int))).run P W = .ok (.pointer (some ⟨b, o, none⟩)) W) ∧ b < w.heap.size ∧ w.cell? ⟨b, o, none⟩ = some (.string ps[i].1) ∧ w.cell? ⟨b, o + 1, none⟩ = some (.slice A ps[i].2.length c) ∧ IsQs w (.slice A ps[i].2.length c) ps[i].2 := by
  obtain ⟨xs, hr, hx⟩ := h
  obtain ⟨u, hu, hB⟩ := hx i h1
  obtain ⟨b, o, hi, hb, hc⟩ := hr.at_ ht hs kd (i := (i : Int)) (by omega) (by omega)
  have h2 := take2_at hu
  rw [Int.toNat_natCast] at hc
  obtain ⟨A, c, rfl⟩ := isQs_slice hB
  exact ⟨b, o, A, c, hi, hb, by simpa using hc 0 _ h2.1, hc 1 _ h2.2, hB⟩
end

/-- A qualifier, policies: valid. -/
def okQ (q : Qual) : Bool := (arcsL q.1.data.toList).isSome && decide (treeOK 16 q.2)
/-- The policies' object identifiers are distinct. -/
def freshP (ps : List Pol) : Nat → Bool := fun i => !((ps.take i).any fun p => decide (p.1 = (ps.getD i default).1))
def okP1 (ps : List Pol) (i : Nat) : Bool := (arcsL (ps.getD i default).1.data.toList).isSome && freshP ps i && (ps.getD i default).2.all okQ
def okP (ps : List Pol) : Bool := decide (0 < ps.length) && (List.range ps.length).all (okP1 ps)
/-- Not too great. -/
def SzQ (q : Qual) : Prop := q.1.size ≤ 100000 ∧ q.2.length ≤ 10000
def SzP (ps : List Pol) : Prop := ps.length ≤ 10000 ∧ ∀ p ∈ ps, p.1.size ≤ 100000 ∧ p.2.length ≤ 10000 ∧ ∀ q ∈ p.2, SzQ q
end Go.Cr
end

/- Attributes, plain: what Marshal writes, what Parse accepts, what the reference accepts. No program in sight. -/
section
set_option linter.unusedSimpArgs false
set_option linter.unusedVariables false
namespace Go.Cr
open Go.RowKit

/-- The octets of an attribute. -/
def marA (s v : List UInt8) : Option (List UInt8) := match oidE s with
  | none => none
  | some c => if treeOK 16 v then some (encO 0 true 16 (encO 0 false 6 c ++ v)) else none

/-- The attribute that octets are. -/
def parA (b : List UInt8) : Option (List UInt8 × List UInt8) := match partsE b 0 16 with
  | .error _ => none
  | .ok [x, y] => if isE x 0 false 6 then match oidD (seg b x.body x.stop) with
      | none => none
      | some s => if treeOK 16 (seg b y.start y.stop) then some (s, seg b y.start y.stop) else none
    else none
  | .ok _ => none

theorem seg_seg (l : List UInt8) (a e b f : Int) (h0 : 0 ≤ a) (h1 : a ≤ b) (h2 : b ≤ f) (h3 : f ≤ e) : seg (seg l a e) (b - a) (f - a) = seg l b f := by
  unfold seg
  rw [List.drop_take, List.take_take, List.drop_drop]
  congr 1
  · omega
  · congr 1; omega

theorem marA_some {s v b : List UInt8} (h : marA s v = some b) : ∃ c, oidE s = some c ∧ treeOK 16 v ∧ b = encO 0 true 16 (encO 0 false 6 c ++ v) := by
  unfold marA at h
  split at h
  · cases h
  · rename_i c hc
    split at h
    · rename_i ht; injection h with h; exact ⟨c, hc, ht, h.symm⟩
    · cases h

theorem parA_mar {b s v : List UInt8} (h : parA b = some (s, v)) : marA s v = some b := by
  unfold parA at h
  split at h
  · cases h
  · rename_i x y hp
    split at h
    · rename_i his
      split at h
      · cases h
      · rename_i s' hs
        split at h
        · rename_i ht
          injection h with h; injection h with h1 h2
          subst h1 h2
          obtain ⟨hb, _, _, _, _, hall⟩ := partsE_ok hp
          obtain ⟨a0, a1, a2, a3, ao⟩ := hall x (by simp)
          have hc := (oneE_canon ao).1
          simp only at hc
          rw [seg_seg b x.start x.stop x.body x.stop a0 (by omega) a2 (Int.le_refl _)] at hc
          unfold isE at his
          simp only [Bool.and_eq_true, beq_iff_eq] at his
          rw [his.1.1, his.1.2, his.2] at hc
          unfold marA
          rw [(oid_iff _ _).1 hs]
          simp only
          rw [if_pos ht, hc]
          simp only [segsE, List.map_cons, List.map_nil, List.flatten_cons, List.flatten_nil, List.append_nil] at hb
          rw [← hb]
        · cases h
    · cases h
  · cases h

theorem mar_parA {b s v : List UInt8} (h : marA s v = some b) (hl : b.length ≤ 1000000) : parA b = some (s, v) := by
  obtain ⟨c, hc, ht, rfl⟩ := marA_some h
  have hL := encO_len 0 16 true (encO 0 false 6 c ++ v)
  have hL2 := encO_len 0 6 false c
  rw [List.length_append] at hL
  have e0 : (encO 0 false 6 c ++ v) = [encO 0 false 6 c, v].flatten := by simp
  have h1 : ∀ p ∈ [encO 0 false 6 c, v], ∃ x, oneE p = .ok x := by
    intro p hp
    simp at hp
    rcases hp with rfl | rfl
    · exact ⟨_, oneE_enc 0 6 false c (by decide) (by decide) (by decide) (by decide) (by omega)⟩
    · exact treeOK_one ht
  obtain ⟨xs, hp, hsg⟩ := partsE_enc 0 16 [encO 0 false 6 c, v] (by decide) (by decide) (by decide) (by decide) (by rw [← e0, List.length_append]; omega) h1
  rw [← e0] at hp hsg
  obtain ⟨_, _, _, _, _, hall⟩ := partsE_ok hp
  generalize hB : encO 0 true 16 (encO 0 false 6 c ++ v) = B at *
  have hl2 : xs.length = 2 := by have := congrArg List.length hsg; simpa [segsE] using this
  obtain ⟨x, y, rfl⟩ : ∃ x y, xs = [x, y] := by
    cases xs with
    | nil => cases hl2
    | cons x t => cases t with
      | nil => cases hl2
      | cons y t => cases t with
        | nil => exact ⟨x, y, rfl⟩
        | cons z t => simp at hl2
  · skip
    simp only [segsE, List.map_cons, List.map_nil, List.cons.injEq, and_true] at hsg
    obtain ⟨a0, a1, a2, a3, ao⟩ := hall x (by simp)
    have hcan := oneE_canon ao
    simp only at hcan
    rw [seg_seg B x.start x.stop x.body x.stop a0 (by omega) a2 (Int.le_refl _), hsg.1] at hcan
    have hsl := seg_len B x.body x.stop (by omega) a2 a3
    obtain ⟨i1, i2, i3, i4⟩ := encO_inj hcan.2.2.2.1 hcan.2.2.2.2.1 hcan.2.2.2.2.2.1 hcan.2.2.2.2.2.2 (by decide) (by decide) (by decide) (by decide) (by omega) (by omega) hcan.1
    unfold parA
    rw [hp]
    simp only
    rw [if_pos (by simp [isE, i1, i2, i3]), i4, (oid_iff _ _).2 hc]
    simp only
    rw [hsg.2, if_pos ht]

theorem parA_iff {b s v : List UInt8} (hl : b.length ≤ 1000000) : parA b = some (s, v) ↔ marA s v = some b := ⟨parA_mar, fun h => mar_parA h hl⟩

/-- The content octets of a node. -/
def kidC (p : List UInt8) : List UInt8 := match nextH p with
  | .error _ => []
  | .ok h => if h.con then [] else cont p h
/-- What the reference reads in the elements inside. -/
def rdA (ks : List (List UInt8)) : List UInt8 × List UInt8 := ((oidD (kidC (ks.getD 0 []))).getD [], ks.getD 1 [])
def kidsA (b : List UInt8) : List (List UInt8) := if treeOK 60 b then kidsT 59 b else []
/-- The attribute that the reference finds. -/
def rparA (b : List UInt8) : Option (List UInt8 × List UInt8) := if marA (rdA (kidsA b)).1 (rdA (kidsA b)).2 = some b then some (rdA (kidsA b)) else none

theorem kids_mar {s v b c : List UInt8} (hc : oidE s = some c) (ht : treeOK 16 v) (hb : b = encO 0 true 16 (encO 0 false 6 c ++ v)) (hl : b.length ≤ 1000000) : treeOK 60 b ∧ kidsT 59 b = [encO 0 false 6 c, v] := by
  subst hb
  have hL := encO_len 0 16 true (encO 0 false 6 c ++ v)
  have hL2 := encO_len 0 6 false c
  rw [List.length_append] at hL
  have e0 : (encO 0 false 6 c ++ v) = [encO 0 false 6 c, v].flatten := by simp
  have hk : ∀ p ∈ [encO 0 false 6 c, v], treeOK 59 p := by
    intro p hp
    simp at hp
    rcases hp with rfl | rfl
    · exact treeOK_prim 0 6 c (by decide) (by decide) (by decide) (by decide) (by omega)
    · exact treeOK_mono (by decide) ht
  have hf : [encO 0 false 6 c, v].flatten.length ≤ 2147483647 := by rw [← e0, List.length_append]; omega
  rw [e0]
  exact ⟨treeOK_con 0 16 _ (by decide) (by decide) (by decide) (by decide) hf hk, kidsT_con 0 16 _ (by decide) (by decide) (by decide) (by decide) hf hk⟩

theorem kidC_enc (c n : Int) (l : List UInt8) (h : 0 ≤ c) (h1 : c ≤ 3) (h2 : 0 ≤ n) (h3 : n < 31) (hl : l.length ≤ 2147483647) : kidC (encO c false n l) = l := by
  have e1 := nextH_enc c n false l [] h h1 h2 h3 hl
  have e2 := cont_enc c n false l []
  rw [List.append_nil] at e1 e2
  unfold kidC
  rw [e1]
  simpa using e2

theorem rparA_eq {b : List UInt8} (hl : b.length ≤ 1000000) : rparA b = parA b := by
  cases hp : parA b with
  | some p =>
    obtain ⟨s, v⟩ := p
    have hm := parA_mar hp
    obtain ⟨c, hc, ht, hb⟩ := marA_some hm
    obtain ⟨k1, k2⟩ := kids_mar hc ht hb hl
    have hL := encO_len 0 16 true (encO 0 false 6 c ++ v)
    have hL2 := encO_len 0 6 false c
    rw [List.length_append, ← hb] at hL
    have hr : rdA (kidsA b) = (s, v) := by
      unfold kidsA
      rw [if_pos k1, k2]
      unfold rdA
      simp only [List.getD_cons_zero, List.getD_cons_succ]
      rw [kidC_enc 0 6 c (by decide) (by decide) (by decide) (by decide) (by omega), (oid_iff _ _).2 hc]
      rfl
    unfold rparA
    rw [hr]
    exact if_pos hm
  | none =>
    unfold rparA
    split
    · rename_i h
      have := mar_parA h hl
      rw [hp] at this
      cases this
    · rfl
end Go.Cr
end

/- Elements of a SEQUENCE, element OBJECT IDENTIFIER: plain. No program in sight. -/
section
set_option linter.unusedSimpArgs false
set_option linter.unusedVariables false
namespace Go.Cr
open Go.RowKit

/-- A SEQUENCE. -/
def seqB (ls : List (List UInt8)) : List UInt8 := encO 0 true 16 ls.flatten
/-- The octets of the elements of a SEQUENCE. -/
def eachL (least most : Nat) (b : List UInt8) : Option (List (List UInt8)) := match partsE b 0 16 with
  | .error _ => none
  | .ok xs => if least ≤ xs.length ∧ xs.length ≤ most then some (segsE b xs) else none
/-- The text of an element OBJECT IDENTIFIER. -/
def idL (y : List UInt8) : Option (List UInt8) := match oneE y with
  | .error _ => none
  | .ok x => if isE x 0 false 6 then oidD (seg y x.body x.stop) else none
/-- Its element. -/
def objB (s : List UInt8) : List UInt8 := encO 0 false 6 ((oidE s).getD [])

theorem segsE_len (b : List UInt8) (xs : List Elem) : (segsE b xs).length = xs.length := by simp [segsE]
theorem eachL_ok {least most : Nat} {b : List UInt8} {ls : List (List UInt8)} (h : eachL least most b = some ls) : b = seqB ls ∧ least ≤ ls.length ∧ ls.length ≤ most ∧ ∀ p ∈ ls, ∃ x, oneE p = .ok x := by
  unfold eachL at h
  split at h
  · cases h
  · rename_i xs hp
    split at h
    · rename_i hn
      injection h with h
      subst h
      obtain ⟨hb, _, _, _, _, hall⟩ := partsE_ok hp
      refine ⟨hb, by rw [segsE_len]; exact hn.1, by rw [segsE_len]; exact hn.2, fun p hp => ?_⟩
      unfold segsE at hp
      obtain ⟨x, hx, rfl⟩ := List.mem_map.1 hp
      exact ⟨_, (hall x hx).2.2.2.2⟩
    · cases h
theorem eachL_seq {least most : Nat} {ls : List (List UInt8)} (hl : ls.flatten.length ≤ 2147483647) (h1 : least ≤ ls.length) (h2 : ls.length ≤ most) (h : ∀ p ∈ ls, ∃ x, oneE p = .ok x) : eachL least most (seqB ls) = some ls := by
  obtain ⟨xs, hp, hs⟩ := partsE_enc 0 16 ls (by decide) (by decide) (by decide) (by decide) hl h
  have hn : xs.length = ls.length := by rw [← hs, segsE_len]
  unfold eachL seqB
  rw [hp]
  simp only
  rw [if_pos (by omega), hs]
theorem idL_ok {y s : List UInt8} (h : idL y = some s) : (oidE s).isSome ∧ y = objB s := by
  unfold idL at h
  split at h
  · cases h
  · rename_i x hx
    split at h
    · rename_i his
      have hc := (oneE_canon hx).1
      unfold isE at his
      simp only [Bool.and_eq_true, beq_iff_eq] at his
      rw [his.1.1, his.1.2, his.2] at hc
      have he := (oid_iff _ _).1 h
      unfold objB
      rw [he]
      exact ⟨rfl, hc.symm⟩
    · cases h
theorem idL_obj {s : List UInt8} (h : (oidE s).isSome) (hl : (objB s).length ≤ 1000000) : idL (objB s) = some s := by
  obtain ⟨c, hc⟩ := Option.isSome_iff_exists.1 h
  unfold objB at hl ⊢
  rw [hc] at hl ⊢
  simp only [Option.getD_some] at hl ⊢
  have hL := encO_len 0 6 false c
  obtain ⟨x, hx⟩ : ∃ x, oneE (encO 0 false 6 c) = .ok x := ⟨_, oneE_enc 0 6 false c (by decide) (by decide) (by decide) (by decide) (by omega)⟩
  obtain ⟨h1, h2, h3, h4, h5, h6, h7⟩ := oneE_canon hx
  have hb := oneE_ok hx
  have hsl := seg_len (encO 0 false 6 c) x.body x.stop (by omega) (by omega) (by omega)
  obtain ⟨i1, i2, i3, i4⟩ := encO_inj h4 h5 h6 h7 (by decide) (by decide) (by decide) (by decide) (by omega) (by omega) h1
  unfold idL
  rw [hx]
  simp only
  rw [if_pos (by simp [isE, i1, i2, i3]), i4, (oid_iff _ _).2 hc]
theorem objB_one (s : List UInt8) (hl : (objB s).length ≤ 1000000) : ∃ x, oneE (objB s) = .ok x := by
  unfold objB at hl ⊢
  have hL := encO_len 0 6 false ((oidE s).getD [])
  exact ⟨_, oneE_enc 0 6 false _ (by decide) (by decide) (by decide) (by decide) (by omega)⟩
theorem seqB_len (ls : List (List UInt8)) : ls.flatten.length < (seqB ls).length := by
  have := encO_len 0 16 true ls.flatten
  unfold seqB
  omega
theorem seqB_one (ls : List (List UInt8)) (hl : (seqB ls).length ≤ 1000000) : ∃ x, oneE (seqB ls) = .ok x := by
  have hL := seqB_len ls
  unfold seqB at hl hL ⊢
  exact ⟨_, oneE_enc 0 16 true _ (by decide) (by decide) (by decide) (by decide) (by omega)⟩
theorem seqB_inj {ls ms : List (List UInt8)} (h : seqB ls = seqB ms) (h1 : ∀ p ∈ ls, ∃ x, oneE p = .ok x) (h2 : ∀ p ∈ ms, ∃ x, oneE p = .ok x) (hl : (seqB ls).length ≤ 1000000) : ls = ms := by
  have a := seqB_len ls
  have b := seqB_len ms
  have e1 := eachL_seq (least := 0) (most := ls.length + ms.length) (by omega) (Nat.zero_le _) (by omega) h1
  have e2 := eachL_seq (least := 0) (most := ls.length + ms.length) (by rw [← h] at b; omega) (Nat.zero_le _) (by omega) h2
  rw [h, e2] at e1
  injection e1 with e1
  exact e1.symm
theorem mem_flat_len {α : Type} {ls : List (List α)} {p : List α} (h : p ∈ ls) : p.length ≤ ls.flatten.length := by
  induction ls with
  | nil => cases h
  | cons x t ih =>
    simp only [List.flatten_cons, List.length_append]
    rcases List.mem_cons.1 h with rfl | h
    · omega
    · have := ih h; omega
theorem cnt_flat {ls : List (List UInt8)} (h : ∀ p ∈ ls, ∃ x, oneE p = .ok x) : ls.length ≤ ls.flatten.length := by
  induction ls with
  | nil => simp
  | cons p t ih =>
    obtain ⟨x, hx⟩ := h p (by simp)
    have hb := oneE_ok hx
    have := ih fun q hq => h q (by simp [hq])
    simp only [List.length_cons, List.flatten_cons, List.length_append]
    omega
theorem oidE_some (s : List UInt8) : (oidE s).isSome = (arcsL s).isSome := by first | (unfold oidE; simp; done) | (unfold oidE arcsL; split <;> rfl)

/-! ### What the reference reads. -/
theorem kids_seq {d : Nat} (ls : List (List UInt8)) (hl : (seqB ls).length ≤ 1000000) (h : ∀ p ∈ ls, treeOK d p) : treeOK (d + 1) (seqB ls) ∧ kidsT d (seqB ls) = ls := by
  have a := seqB_len ls
  exact ⟨treeOK_con 0 16 ls (by decide) (by decide) (by decide) (by decide) (by omega) h, kidsT_con 0 16 ls (by decide) (by decide) (by decide) (by decide) (by omega) h⟩
/-- The text that the reference reads. -/
def rdObj (k : List UInt8) : List UInt8 := (oidD (kidC k)).getD []
theorem rdObj_obj {s : List UInt8} (h : (oidE s).isSome) (hl : (objB s).length ≤ 1000000) : rdObj (objB s) = s := by
  obtain ⟨c, hc⟩ := Option.isSome_iff_exists.1 h
  unfold rdObj
  unfold objB at hl ⊢
  rw [hc] at hl ⊢
  simp only [Option.getD_some] at hl ⊢
  have hL := encO_len 0 6 false c
  rw [kidC_enc 0 6 c (by decide) (by decide) (by decide) (by decide) (by omega), (oid_iff _ _).2 hc]
  rfl
theorem objB_tree (d : Nat) (s : List UInt8) (hl : (objB s).length ≤ 1000000) : treeOK (d + 1) (objB s) := by
  unfold objB at hl ⊢
  have hL := encO_len 0 6 false ((oidE s).getD [])
  exact treeOK_prim 0 6 _ (by decide) (by decide) (by decide) (by decide) (by omega)
end Go.Cr
end
