/- The parts Pol, Attr, EachP, DnP, DnA of one proof, one behind the other. -/
import Derived.Test.YtlmnmgokfnnbbaaGreatDoorQ01
import Derived.Test.YtlmnmgokfnnbbaaGreatDoorQ02

/- Policies, qualifiers and mappings in memory. No program in sight. -/
section
set_option linter.unusedSimpArgs false
set_option linter.unusedVariables false
namespace Go.Cr
open Go.RowKit
abbrev Qual := ByteArray × List UInt8
abbrev Pol := ByteArray × List Qual
theorem take2_at {xs : List Value} {i : Nat} {a b : Value} (h : (xs.drop (i * 2)).take 2 = [a, b]) : xs[i * 2 + 0]? = some a ∧ xs[i * 2 + 1]? = some b := by
  have h0 := congrArg (fun l => l[0]?) h
  have h1 := congrArg (fun l => l[1]?) h
  simp [List.getElem?_take, List.getElem?_drop] at h0 h1
  exact ⟨by simpa using h0, h1⟩
def IsQs (w : World) (v : Value) (qs : List Qual) : Prop := ∃ xs, IsR w v 2 qs.length xs ∧ ∀ j (h : j < qs.length), ∃ u, (xs.drop (j * 2)).take 2 = [.string qs[j].1, u] ∧ IsB w u qs[j].2
def IsPs (w : World) (v : Value) (ps : List Pol) : Prop := ∃ xs, IsR w v 2 ps.length xs ∧ ∀ j (h : j < ps.length), ∃ u, (xs.drop (j * 2)).take 2 = [.string ps[j].1, u] ∧ IsQs w u ps[j].2
theorem IsQs.below {w w' : World} {v : Value} {qs : List Qual} (h : IsQs w v qs) (hb : Below w.heap.size w w') : IsQs w' v qs := by
  obtain ⟨xs, h1, h2⟩ := h
  refine ⟨xs, h1.below hb, fun j hj => ?_⟩
  obtain ⟨u, h3, h4⟩ := h2 j hj
  exact ⟨u, h3, h4.below hb⟩
theorem IsQs.alloc {w : World} {v : Value} {qs : List Qual} (h : IsQs w v qs) (o : Obj) : IsQs (w.alloc o) v qs := h.below ((Below.refl _ _).alloc (Nat.le_refl _) o)
theorem IsPs.below {w w' : World} {v : Value} {ps : List Pol} (h : IsPs w v ps) (hb : Below w.heap.size w w') : IsPs w' v ps := by
  obtain ⟨xs, h1, h2⟩ := h
  refine ⟨xs, h1.below hb, fun j hj => ?_⟩
  obtain ⟨u, h3, h4⟩ := h2 j hj
  exact ⟨u, h3, h4.below hb⟩
theorem IsPs.alloc {w : World} {v : Value} {ps : List Pol} (h : IsPs w v ps) (o : Obj) : IsPs (w.alloc o) v ps := h.below ((Below.refl _ _).alloc (Nat.le_refl _) o)
theorem isQs_slice {w : World} {v : Value} {qs : List Qual} (h : IsQs w v qs) : ∃ A c, v = .slice A qs.length c := by
  obtain ⟨xs, ⟨A, c, rfl, _⟩, _⟩ := h; exact ⟨A, c, rfl⟩
theorem IsQs.nil_ (w : World) : IsQs w (.slice none 0 0) [] := ⟨[], ⟨none, 0, rfl, Nat.le_refl _, by decide, rfl, fun h => absurd h (by simp)⟩, fun j h => absurd h (by simp)⟩
section
variable {P : Program} {w : World} {v : Value} {t e : TypeId}
theorem IsQs.len {qs : List Qual} (h : IsQs w v qs) (ht : P.underlying t = some (.slice e)) : ∀ (ty : TypeId) (W : World), (Builtin.len_ #[t] ty #[v]).run P W = .ok (.int .i64 qs.length) W := by
  obtain ⟨xs, h1, _⟩ := h; exact h1.len ht
theorem IsPs.len {ps : List Pol} (h : IsPs w v ps) (ht : P.underlying t = some (.slice e)) : ∀ (ty : TypeId) (W : World), (Builtin.len_ #[t] ty #[v]).run P W = .ok (.int .i64 ps.length) W := by
  obtain ⟨xs, h1, _⟩ := h; exact h1.len ht
theorem IsQs.maxl {qs : List Qual} (h : IsQs w v qs) : (qs.length : Int) ≤ 9223372036854775807 := by obtain ⟨xs, h1, _⟩ := h; exact h1.maxl
theorem IsPs.maxl {ps : List Pol} (h : IsPs w v ps) : (ps.length : Int) ≤ 9223372036854775807 := by obtain ⟨xs, h1, _⟩ := h; exact h1.maxl
theorem IsQs.at_ {qs : List Qual} (h : IsQs w v qs) (ht : P.underlying t = some (.slice e)) (hs : ∀ W, (sizeOf e).run P W = .ok 2 W) (kd : IntKind) (i : Nat) (h1 : i < qs.length) :
    ∃ b o A c, (∀ W : World, (Instr.indexAt t v (.int kd (i : Int))).run P W = .ok (.pointer (some ⟨b, o, none⟩)) W) ∧ b < w.heap.size ∧ w.cell? ⟨b, o, none⟩ = some (.string qs[i].1) ∧ w.cell? ⟨b, o + 1, none⟩ = some (.slice A qs[i].2.length c) ∧ IsB w (.slice A qs[i].2.length c) qs[i].2 := by
  obtain ⟨xs, hr, hx⟩ := h
  obtain ⟨u, hu, hB⟩ := hx i h1
  obtain ⟨b, o, hi, hb, hc⟩ := hr.at_ ht hs kd (i := (i : Int)) (by omega) (by omega)
  have h2 := take2_at hu
  rw [Int.toNat_natCast] at hc
  obtain ⟨A, c, _, rfl, _⟩ : ∃ A c, True ∧ u = .slice A qs[i].2.length c ∧ True := by obtain ⟨A, c, h, _⟩ := hB; exact ⟨A, c, trivial, h, trivial⟩
  exact ⟨b, o, A, c, hi, hb, by simpa using hc 0 _ h2.1, hc 1 _ h2.2, hB⟩
theorem IsPs.at_ {ps : List Pol} (h : IsPs w v ps) (ht : P.underlying t = some (.slice e)) (hs : ∀ W, (sizeOf e).run P W = .ok 2 W) (kd : IntKind) (i : Nat) (h1 : i < ps.length) :
    ∃ b o A c, (∀ W : World, (Instr.indexAt t v (.int kd (i : Int))).run P W = .ok (.pointer (some ⟨b, o, none⟩)) W) ∧ b < w.heap.size ∧ w.cell? ⟨b, o, none⟩ = some (.string ps[i].1) ∧ w.cell? ⟨b, o + 1, none⟩ = some (.slice A ps[i].2.length c) ∧ IsQs w (.slice A ps[i].2.length c) ps[i].2 := by
  obtain ⟨xs, hr, hx⟩ := h
  obtain ⟨u, hu, hB⟩ := hx i h1
  obtain ⟨b, o, hi, hb, hc⟩ := hr.at_ ht hs kd (i := (i : Int)) (by omega) (by omega)
  have h2 := take2_at hu
  rw [Int.toNat_natCast] at hc
  obtain ⟨A, c, rfl⟩ := isQs_slice hB
  exact ⟨b, o, A, c, hi, hb, by simpa using hc 0 _ h2.1, hc 1 _ h2.2, hB⟩
end
end Go.Cr
end

/- Attributes, plain: what Marshal writes, what Parse accepts, what the reference accepts. No program in sight. -/
section
set_option linter.unusedSimpArgs false
set_option linter.unusedVariables false
namespace Go.Cr
open Go.RowKit
def marA (s v : List UInt8) : Option (List UInt8) := match oidE s with
  | none => none
  | some c => if treeOK 16 v then some (encO 0 true 16 (encO 0 false 6 c ++ v)) else none

def parA (b : List UInt8) : Option (List UInt8 × List UInt8) := match partsE b 0 16 with
  | .error _ => none
  | .ok [x, y] => if isE x 0 false 6 then match oidD (seg b x.body x.stop) with
      | none => none
      | some s => if treeOK 16 (seg b y.start y.stop) then some (s, seg b y.start y.stop) else none
    else none
  | .ok _ => none

theorem seg_seg (l : List UInt8) (a e b f : Int) (h0 : 0 ≤ a) (h1 : a ≤ b) (h2 : b ≤ f) (h3 : f ≤ e) : seg (seg l a e) (b - a) (f - a) = seg l b f := by
  unfold seg
  rw [List.drop_take, List.take_take, List.drop_drop]
  congr 1
  · omega
  · congr 1; omega

theorem marA_some {s v b : List UInt8} (h : marA s v = some b) : ∃ c, oidE s = some c ∧ treeOK 16 v ∧ b = encO 0 true 16 (encO 0 false 6 c ++ v) := by
  unfold marA at h
  split at h
  · cases h
  · rename_i c hc
    split at h
    · rename_i ht; injection h with h; exact ⟨c, hc, ht, h.symm⟩
    · cases h

theorem parA_mar {b s v : List UInt8} (h : parA b = some (s, v)) : marA s v = some b := by
  unfold parA at h
  split at h
  · cases h
  · rename_i x y hp
    split at h
    · rename_i his
      split at h
      · cases h
      · rename_i s' hs
        split at h
        · rename_i ht
          injection h with h; injection h with h1 h2
          subst h1 h2
          obtain ⟨hb, _, _, _, _, hall⟩ := partsE_ok hp
          obtain ⟨a0, a1, a2, a3, ao⟩ := hall x (by simp)
          have hc := (oneE_canon ao).1
          simp only at hc
          rw [seg_seg b x.start x.stop x.body x.stop a0 (by omega) a2 (Int.le_refl _)] at hc
          unfold isE at his
          simp only [Bool.and_eq_true, beq_iff_eq] at his
          rw [his.1.1, his.1.2, his.2] at hc
          unfold marA
          rw [(oid_iff _ _).1 hs]
          simp only
          rw [if_pos ht, hc]
          simp only [segsE, List.map_cons, List.map_nil, List.flatten_cons, List.flatten_nil, List.append_nil] at hb
          rw [← hb]
        · cases h
    · cases h
  · cases h

theorem mar_parA {b s v : List UInt8} (h : marA s v = some b) (hl : b.length ≤ 1000000) : parA b = some (s, v) := by
  obtain ⟨c, hc, ht, rfl⟩ := marA_some h
  have hL := encO_len 0 16 true (encO 0 false 6 c ++ v)
  have hL2 := encO_len 0 6 false c
  rw [List.length_append] at hL
  have e0 : (encO 0 false 6 c ++ v) = [encO 0 false 6 c, v].flatten := by simp
  have h1 : ∀ p ∈ [encO 0 false 6 c, v], ∃ x, oneE p = .ok x := by
    intro p hp
    simp at hp
    rcases hp with rfl | rfl
    · exact ⟨_, oneE_enc 0 6 false c (by decide) (by decide) (by decide) (by decide) (by omega)⟩
    · exact treeOK_one ht
  obtain ⟨xs, hp, hsg⟩ := partsE_enc 0 16 [encO 0 false 6 c, v] (by decide) (by decide) (by decide) (by decide) (by rw [← e0, List.length_append]; omega) h1
  rw [← e0] at hp hsg
  obtain ⟨_, _, _, _, _, hall⟩ := partsE_ok hp
  generalize hB : encO 0 true 16 (encO 0 false 6 c ++ v) = B at *
  have hl2 : xs.length = 2 := by have := congrArg List.length hsg; simpa [segsE] using this
  obtain ⟨x, y, rfl⟩ : ∃ x y, xs = [x, y] := by
    cases xs with
    | nil => cases hl2
    | cons x t => cases t with
      | nil => cases hl2
      | cons y t => cases t with
        | nil => exact ⟨x, y, rfl⟩
        | cons z t => simp at hl2
  · skip
    simp only [segsE, List.map_cons, List.map_nil, List.cons.injEq, and_true] at hsg
    obtain ⟨a0, a1, a2, a3, ao⟩ := hall x (by simp)
    have hcan := oneE_canon ao
    simp only at hcan
    rw [seg_seg B x.start x.stop x.body x.stop a0 (by omega) a2 (Int.le_refl _), hsg.1] at hcan
    have hsl := seg_len B x.body x.stop (by omega) a2 a3
    obtain ⟨i1, i2, i3, i4⟩ := encO_inj hcan.2.2.2.1 hcan.2.2.2.2.1 hcan.2.2.2.2.2.1 hcan.2.2.2.2.2.2 (by decide) (by decide) (by decide) (by decide) (by omega) (by omega) hcan.1
    unfold parA
    rw [hp]
    simp only
    rw [if_pos (by simp [isE, i1, i2, i3]), i4, (oid_iff _ _).2 hc]
    simp only
    rw [hsg.2, if_pos ht]

def kidC (p : List UInt8) : List UInt8 := match nextH p with
  | .error _ => []
  | .ok h => if h.con then [] else cont p h
def rdA (ks : List (List UInt8)) : List UInt8 × List UInt8 := ((oidD (kidC (ks.getD 0 []))).getD [], ks.getD 1 [])
def kidsA (b : List UInt8) : List (List UInt8) := if treeOK 60 b then kidsT 59 b else []
def rparA (b : List UInt8) : Option (List UInt8 × List UInt8) := if marA (rdA (kidsA b)).1 (rdA (kidsA b)).2 = some b then some (rdA (kidsA b)) else none

theorem kids_mar {s v b c : List UInt8} (hc : oidE s = some c) (ht : treeOK 16 v) (hb : b = encO 0 true 16 (encO 0 false 6 c ++ v)) (hl : b.length ≤ 1000000) : treeOK 60 b ∧ kidsT 59 b = [encO 0 false 6 c, v] := by
  subst hb
  have hL := encO_len 0 16 true (encO 0 false 6 c ++ v)
  have hL2 := encO_len 0 6 false c
  rw [List.length_append] at hL
  have e0 : (encO 0 false 6 c ++ v) = [encO 0 false 6 c, v].flatten := by simp
  have hk : ∀ p ∈ [encO 0 false 6 c, v], treeOK 59 p := by
    intro p hp
    simp at hp
    rcases hp with rfl | rfl
    · exact treeOK_prim 0 6 c (by decide) (by decide) (by decide) (by decide) (by omega)
    · exact treeOK_mono (by decide) ht
  have hf : [encO 0 false 6 c, v].flatten.length ≤ 2147483647 := by rw [← e0, List.length_append]; omega
  rw [e0]
  exact ⟨treeOK_con 0 16 _ (by decide) (by decide) (by decide) (by decide) hf hk, kidsT_con 0 16 _ (by decide) (by decide) (by decide) (by decide) hf hk⟩

theorem kidC_enc (c n : Int) (l : List UInt8) (h : 0 ≤ c) (h1 : c ≤ 3) (h2 : 0 ≤ n) (h3 : n < 31) (hl : l.length ≤ 2147483647) : kidC (encO c false n l) = l := by
  have e1 := nextH_enc c n false l [] h h1 h2 h3 hl
  have e2 := cont_enc c n false l []
  rw [List.append_nil] at e1 e2
  unfold kidC
  rw [e1]
  simpa using e2

theorem rparA_eq {b : List UInt8} (hl : b.length ≤ 1000000) : rparA b = parA b := by
  cases hp : parA b with
  | some p =>
    obtain ⟨s, v⟩ := p
    have hm := parA_mar hp
    obtain ⟨c, hc, ht, hb⟩ := marA_some hm
    obtain ⟨k1, k2⟩ := kids_mar hc ht hb hl
    have hL := encO_len 0 16 true (encO 0 false 6 c ++ v)
    have hL2 := encO_len 0 6 false c
    rw [List.length_append, ← hb] at hL
    have hr : rdA (kidsA b) = (s, v) := by
      unfold kidsA
      rw [if_pos k1, k2]
      unfold rdA
      simp only [List.getD_cons_zero, List.getD_cons_succ]
      rw [kidC_enc 0 6 c (by decide) (by decide) (by decide) (by decide) (by omega), (oid_iff _ _).2 hc]
      rfl
    unfold rparA
    rw [hr]
    exact if_pos hm
  | none =>
    unfold rparA
    split
    · rename_i h
      have := mar_parA h hl
      rw [hp] at this
      cases this
    · rfl
end Go.Cr
end

/- Elements of a SEQUENCE, element OBJECT IDENTIFIER: plain. No program in sight. -/
section
set_option linter.unusedSimpArgs false
set_option linter.unusedVariables false
namespace Go.Cr
open Go.RowKit
theorem mem_flat_len {α : Type} {ls : List (List α)} {p : List α} (h : p ∈ ls) : p.length ≤ ls.flatten.length := by
  induction ls with
  | nil => cases h
  | cons x t ih =>
    simp only [List.flatten_cons, List.length_append]
    rcases List.mem_cons.1 h with rfl | h
    · omega
    · have := ih h; omega
/-! ### What the reference reads. -/
end Go.Cr
end

/- RDNs and names: what is parsed is what would be marshalled, and what the reference parses. No program in sight. -/
section
set_option linter.unusedSimpArgs false
set_option linter.unusedVariables false
namespace Go.Cr
open Go.RowKit
def optL {α β : Type} (f : α → Option β) : List α → Option (List β)
  | [] => some []
  | a :: t => match f a, optL f t with
    | some b, some bs => some (b :: bs)
    | _, _ => none
theorem optL_cons {α β : Type} {f : α → Option β} {a : α} {t : List α} {bs : List β} (h : optL f (a :: t) = some bs) : ∃ b u, f a = some b ∧ optL f t = some u ∧ bs = b :: u := by
  unfold optL at h
  split at h
  · rename_i b u h1 h2
    injection h with h
    exact ⟨b, u, h1, h2, h.symm⟩
  · cases h
theorem optL_len {α β : Type} {f : α → Option β} : ∀ {l : List α} {bs : List β}, optL f l = some bs → bs.length = l.length
  | [], bs, h => by injection h with h; subst h; rfl
  | a :: t, bs, h => by
    obtain ⟨b, u, _, h2, rfl⟩ := optL_cons h
    simp [optL_len h2]
theorem optL_at {α β : Type} {f : α → Option β} : ∀ {l : List α} {bs : List β}, optL f l = some bs → ∀ (i : Nat) (h1 : i < l.length) (h2 : i < bs.length), f l[i] = some bs[i]
  | [], bs, h, i, h1, h2 => by simp at h1
  | a :: t, bs, h, i, h1, h2 => by
    obtain ⟨b, u, e1, e2, rfl⟩ := optL_cons h
    cases i with
    | zero => exact e1
    | succ i => exact optL_at e2 i (by simpa using h1) (by simpa using h2)
theorem optL_mk {α β : Type} {f : α → Option β} : ∀ {l : List α} {bs : List β}, bs.length = l.length → (∀ (i : Nat) (h1 : i < l.length) (h2 : i < bs.length), f l[i] = some bs[i]) → optL f l = some bs
  | [], [], _, _ => rfl
  | [], _ :: _, h, _ => by simp at h
  | _ :: _, [], h, _ => by simp at h
  | a :: t, b :: u, h, k => by
    have h0 := k 0 (by simp) (by simp)
    have ht := optL_mk (l := t) (bs := u) (by simpa using h) (fun i h1 h2 => by have := k (i + 1) (by simpa using h1) (by simpa using h2); simpa using this)
    simp at h0
    unfold optL
    rw [h0, ht]
theorem optL_none {α β : Type} {f : α → Option β} : ∀ {l : List α}, optL f l = none → ∃ i, ∃ h : i < l.length, f l[i] = none
  | [], h => by cases h
  | a :: t, h => by
    cases ha : f a with
    | none => exact ⟨0, by simp, ha⟩
    | some b =>
      cases ht : optL f t with
      | none =>
        obtain ⟨i, hi, he⟩ := optL_none ht
        exact ⟨i + 1, by simpa using hi, by simpa using he⟩
      | some u => unfold optL at h; rw [ha, ht] at h; cases h
theorem optL_back {α β : Type} {f : α → Option β} {g : β → Option α} {l : List α} {bs : List β} (h : optL f l = some bs) (hg : ∀ (i : Nat) (h1 : i < l.length) (h2 : i < bs.length), f l[i] = some bs[i] → g bs[i] = some l[i]) : optL g bs = some l :=
  optL_mk (optL_len h).symm fun i h1 h2 => hg i h2 h1 (optL_at h i h2 h1)
def bST (s : List UInt8) : ByteArray := ⟨s.toArray⟩
theorem bST_list (s : List UInt8) : (bST s).data.toList = s := by simp [bST]
theorem bST_back (s : ByteArray) : bST s.data.toList = s := by simp [bST]
abbrev At := ByteArray × List UInt8
abbrev Rdn := List At
def marX (a : At) : Option (List UInt8) := marA a.1.data.toList a.2
def parX (y : List UInt8) : Option At := (parA y).map fun p => (bST p.1, p.2)
theorem parX_mar {y : List UInt8} {a : At} (h : parX y = some a) : marX a = some y := by
  obtain ⟨⟨s, l⟩, hp, rfl⟩ := Option.map_eq_some_iff.1 h
  unfold marX
  simp only
  rw [bST_list]
  exact parA_mar hp
theorem mar_parX {y : List UInt8} {a : At} (h : marX a = some y) (hl : y.length ≤ 1000000) : parX y = some a := by
  unfold parX
  rw [mar_parA h hl, Option.map_some, bST_back]
def conB (n : Int) (ls : List (List UInt8)) : List UInt8 := encO 0 true n ls.flatten
def marR (r : Rdn) : Option (List UInt8) := match optL marX r with
  | none => none
  | some ps => if r.length ≠ 0 ∧ ascB ps = true then some (conB 17 ps) else none
theorem marR_some {r : Rdn} {b : List UInt8} (h : marR r = some b) : ∃ ps, optL marX r = some ps ∧ r.length ≠ 0 ∧ ascB ps = true ∧ b = conB 17 ps := by
  unfold marR at h
  split at h
  · cases h
  · rename_i ps hp
    split at h
    · rename_i hc
      injection h with h
      exact ⟨ps, hp, hc.1, hc.2, h.symm⟩
    · cases h
/-! ### Names. -/
abbrev Nam := List Rdn
def marNm (n : Nam) : Option (List UInt8) := match optL marR n with
  | none => none
  | some ps => some (conB 16 ps)
/-! ### The reference's. -/
end Go.Cr
end

/- RDNs and names in memory. No program in sight. -/
section
set_option linter.unusedSimpArgs false
set_option linter.unusedVariables false
namespace Go.Cr
open Go.RowKit
theorem isAs_of {S : Nat → Prop} {w : World} {v : Value} {r : Rdn} (h : IsL repA S w v r) : IsQs w v r := by
  obtain ⟨xs, h1, h2⟩ := h
  refine ⟨xs, h1.isR, fun j hj => ?_⟩
  obtain ⟨u, e, hu⟩ := h2.2 j hj
  exact ⟨u, e, hu.isR.bytes⟩
def IsNm (w : World) (v : Value) (n : Nam) : Prop := ∃ xs, IsR w v 1 n.length xs ∧ ∀ j (_ : j < n.length), IsQs w (xs.getD j undef) n[j]
theorem IsNm.below {w w' : World} {v : Value} {n : Nam} (h : IsNm w v n) (hb : Below w.heap.size w w') : IsNm w' v n := by
  obtain ⟨xs, h1, h2⟩ := h
  exact ⟨xs, h1.below hb, fun j hj => (h2 j hj).below hb⟩
theorem IsNm.alloc {w : World} {v : Value} {n : Nam} (h : IsNm w v n) (o : Obj) : IsNm (w.alloc o) v n := h.below ((Below.refl _ _).alloc (Nat.le_refl _) o)
theorem isNm_slice {w : World} {v : Value} {n : Nam} (h : IsNm w v n) : ∃ A c, v = .slice A n.length c := by
  obtain ⟨xs, ⟨A, c, rfl, _⟩, _⟩ := h; exact ⟨A, c, rfl⟩
theorem IsNm.nil_ (w : World) : IsNm w (.slice none 0 0) [] := ⟨[], ⟨none, 0, rfl, Nat.le_refl _, by decide, rfl, fun h => absurd h (by simp)⟩, fun j h => absurd h (by simp)⟩
theorem IsNm.maxl {w : World} {v : Value} {n : Nam} (h : IsNm w v n) : (n.length : Int) ≤ 9223372036854775807 := by obtain ⟨xs, h1, _⟩ := h; exact h1.maxl
theorem IsNm.len {P : Program} {w : World} {v : Value} {t e : TypeId} {n : Nam} (h : IsNm w v n) (ht : P.underlying t = some (.slice e)) : ∀ (ty : TypeId) (W : World), (Builtin.len_ #[t] ty #[v]).run P W = .ok (.int .i64 n.length) W := by
  obtain ⟨xs, h1, _⟩ := h; exact h1.len ht
theorem IsNm.at_ {P : Program} {w : World} {v : Value} {t e : TypeId} {n : Nam} (h : IsNm w v n) (ht : P.underlying t = some (.slice e)) (hs : ∀ W, (sizeOf e).run P W = .ok 1 W) (kd : IntKind) (i : Nat) (h1 : i < n.length) :
    ∃ b o A c, (∀ W : World, (Instr.indexAt t v (.int kd (i : Int))).run P W = .ok (.pointer (some ⟨b, o, none⟩)) W) ∧ b < w.heap.size ∧ w.cell? ⟨b, o, none⟩ = some (.slice A n[i].length c) ∧ IsQs w (.slice A n[i].length c) n[i] := by
  obtain ⟨xs, hr, hx⟩ := h
  have hB := hx i h1
  obtain ⟨b, o, hi, hb, hc⟩ := hr.at_ ht hs kd (i := (i : Int)) (by omega) (by omega)
  rw [Int.toNat_natCast] at hc
  have hl : i < xs.length := by obtain ⟨_, _, _, _, _, hl, _⟩ := hr; omega
  obtain ⟨A, c, hv⟩ := isQs_slice hB
  rw [hv] at hB
  refine ⟨b, o, A, c, hi, hb, ?_, hB⟩
  have := hc 0 (xs.getD i undef) (by simp [hl])
  rw [hv] at this
  simpa using this
theorem isNm_of {S : Nat → Prop} {w : World} {v : Value} {n : Nam} (h : IsL (repL repA) S w v n) : IsNm w v n := by
  obtain ⟨xs, h1, h2⟩ := h
  refine ⟨xs, h1.isR, fun j hj => ?_⟩
  obtain ⟨u, e, hu⟩ := h2.2 j hj
  have hk : (repL repA).k = 1 := rfl
  have hl := h2.1
  rw [hk] at e hl
  have h3 := congrArg (fun l => l[0]?) e
  simp [List.getElem?_take, List.getElem?_drop] at h3
  have e2 : xs.getD j undef = u := by simp [h3]
  rw [e2]
  exact isAs_of hu
theorem part_newD {w W : World} {base : Nat} {t e : TypeId} {u v : Value} {l : List UInt8} {ls : List (List UInt8)} (h : OwB w W.heap.size t u l) (hv : OwP W base e v ls) (hb : base ≤ W.heap.size) : IsRS (But base v.ownBlock) w u 1 l.length (bCells l) := by
  obtain ⟨xs, h1, _⟩ := hv
  exact part_new h hb h1
theorem IsRS.below {S : Nat → Prop} {w w' : World} {v : Value} {k n : Nat} {xs : List Value} (h : IsRS S w v k n xs) (hb : Below w.heap.size w w') : IsRS S w' v k n xs := h.keep hb.size fun b hlt _ => hb.block b hlt
theorem IsRS.alloc {S : Nat → Prop} {w : World} {v : Value} {k n : Nat} {xs : List Value} (h : IsRS S w v k n xs) (o : Obj) : IsRS S (w.alloc o) v k n xs := h.below ((Below.refl _ _).alloc (Nat.le_refl _) o)
theorem OwP.notNew {w : World} {base : Nat} {e : TypeId} {v : Value} {ls : List (List UInt8)} (h : OwP w base e v ls) {g : Nat} (hg : w.heap.size ≤ g) : some g ≠ v.ownBlock := by
  obtain ⟨xs, h1, _⟩ := h
  intro he
  have := (h1.lt _ he.symm).2
  omega
theorem isR_oneD {w : World} {t : TypeId} {u : Value} : IsR (w.alloc (.cells #[u] t)) (.slice (some ⟨w.heap.size, 0, none⟩) 1 1) 1 1 [u] :=
  ⟨_, 1, rfl, Nat.le_refl _, by decide, rfl, fun _ => ⟨w.heap.size, 0, rfl, by simp, fun j x hj => by rw [Nat.zero_add, World.cell?_alloc_new]; simpa using hj⟩⟩
end Go.Cr
end
