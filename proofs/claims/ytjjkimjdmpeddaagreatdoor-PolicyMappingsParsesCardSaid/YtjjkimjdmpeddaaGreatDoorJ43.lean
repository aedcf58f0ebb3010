/- The parts Far, Rep of one proof, one behind the other. -/
import Derived.Test.YtjjkimjdmpeddaaGreatDoorJ05

/- What a function that writes into blocks of some types alone leaves: relations between worlds. No program in sight. -/
section
set_option linter.unusedSimpArgs false
set_option linter.unusedVariables false
namespace Go.Cr
open Go.RowKit
/-- Below B the blocks before base, and all but the cells of the types Tp, are as they were. -/
structure Far (base : Nat) (Tp : TypeId → Prop) (B : Nat) (w w' : World) : Prop where
  os : w'.os = w.os
  tape : w'.tape = w.tape
  output : w'.output = w.output
  size : w.heap.size ≤ w'.heap.size
  block : ∀ k, k < B → (k < base ∨ ∀ cs t fz, w.heap[k]? = some (.cells cs t fz) → ¬ Tp t) → w'.heap[k]? = w.heap[k]?
section
variable {base B : Nat} {Tp : TypeId → Prop} {a w w' : World}
theorem Far.of_below (h : Below B w w') : Far base Tp B w w' := ⟨h.os, h.tape, h.output, h.size, fun k hk _ => h.block k hk⟩
theorem Far.trans (h : Far base Tp B a w) (k : Far base Tp B w w') : Far base Tp B a w' :=
  ⟨k.os.trans h.os, k.tape.trans h.tape, k.output.trans h.output, Nat.le_trans h.size k.size, fun i hi hr => by
    have h1 := h.block i hi hr
    have h2 := k.block i hi (by rw [h1]; exact hr)
    exact h2.trans h1⟩
theorem Far.mono {B' : Nat} (h : Far base Tp B w w') (hB : B' ≤ B) : Far base Tp B' w w' := ⟨h.os, h.tape, h.output, h.size, fun k hk hr => h.block k (Nat.lt_of_lt_of_le hk hB) hr⟩
theorem Far.widen {base' : Nat} {Tp' : TypeId → Prop} (h : Far base Tp B w w') (hb : base' ≤ base) (ht : ∀ t, Tp t → Tp' t) : Far base' Tp' B w w' :=
  ⟨h.os, h.tape, h.output, h.size, fun k hk hr => h.block k hk (by
    rcases hr with hr | hr
    · exact .inl (by omega)
    · exact .inr fun cs t fz e hT => hr cs t fz e (ht t hT))⟩
theorem Far.refl (base : Nat) (Tp : TypeId → Prop) (B : Nat) (w : World) : Far base Tp B w w := Far.of_below (Below.refl B w)
theorem Far.step (h : Far base Tp B a w) (hb : Below w.heap.size w w') (hB : B ≤ w.heap.size) : Far base Tp B a w' := h.trans (Far.of_below (hb.mono hB))
theorem Far.far (h : Far base Tp B a w) (hb : Far base Tp w.heap.size w w') (hB : B ≤ w.heap.size) : Far base Tp B a w' := h.trans (hb.mono hB)
theorem Far.alloc (h : Far base Tp B a w) (hB : B ≤ w.heap.size) (o : Obj) : Far base Tp B a (w.alloc o) := h.step ((Below.refl _ w).alloc (Nat.le_refl _) o) hB
theorem Far.drew (h : Far base Tp B a w) : Far base Tp B a w.drew := h.trans (Far.of_below ((Below.refl _ w).drew))
theorem Far.setCell (h : Far base Tp B a w) {p : Addr} (hp : B ≤ p.block) (u : Value) : Far base Tp B a (w.setCell p u) := h.trans (Far.of_below ((Below.refl _ w).setCell hp u))
/-- A store into a block of one of the types. -/
theorem Far.setRow (h : Far base Tp B a w) {p : Addr} {cs : Array Value} {t : TypeId} (hk : Blk w p.block t cs) (hp : base ≤ p.block) (ht : Tp t) (u : Value) : Far base Tp B a (w.setCell p u) :=
  h.trans ⟨rfl, rfl, rfl, by simp [World.setCell], fun k _ hr => Below.heap_setCell _ _ _ _ (fun e => by
    subst e
    rcases hr with hr | hr
    · omega
    · exact hr _ _ _ hk ht)⟩
/-- An append to a row of one of the types. -/
theorem Far.grown {b0 : Nat} {e : TypeId} {k : Nat} {v : Value} {n : Nat} {xs : List Value} (h : Far base Tp B a w) (hg : w.grownBy w' v.ownBlock) (hB : B ≤ w.heap.size) (ho : w.ownsRow b0 e k v n xs) (hb : base ≤ b0) (ht : Tp e) : Far base Tp B a w' :=
  h.trans ⟨hg.os, hg.tape, hg.output, hg.size, fun i hi hr => hg.block i (by omega) (fun he => by
    obtain ⟨_, ⟨rfl, _⟩ | ⟨g, cap, cur, rfl, hgb, hh, _⟩⟩ := ho
    · cases he
    · have : i = g := by injection he
      subst this
      rcases hr with hr | hr
      · omega
      · exact hr _ _ _ hh ht)⟩
theorem Far.below {B' : Nat} (h : Far base Tp B w w') (hB : B' ≤ B) (hb : B' ≤ base) : Below B' w w' := ⟨h.os, h.tape, h.output, h.size, fun k hk => h.block k (by omega) (.inl (by omega))⟩
theorem Far.cell (h : Far base Tp B w w') {b o : Nat} (hB : b < B) (hb : b < base) : w'.cell? ⟨b, o, none⟩ = w.cell? ⟨b, o, none⟩ := World.cell?_of_block (w := w) (h.block b hB (.inl hb))
theorem Blk.farR {g : Nat} {t : TypeId} {cs : Array Value} (h : Blk w g t cs) (hf : Far base Tp B w w') (hB : g < B) (hr : g < base ∨ ¬ Tp t) : Blk w' g t cs := by
  refine (hf.block g hB ?_).trans h
  rcases hr with hr | hr
  · exact .inl hr
  · refine .inr fun cs' t' fz e hT => hr ?_
    unfold Blk at h
    rw [h] at e
    injection e with e
    injection e with e1 e2 e3
    rw [e2]; exact hT
theorem own_farR {b0 : Nat} {e : TypeId} {k : Nat} {v : Value} {n : Nat} {xs : List Value} (h : w.ownsRow b0 e k v n xs) (hf : Far base Tp w.heap.size w w') (ht : ¬ Tp e) : w'.ownsRow b0 e k v n xs := by
  have hlt := h.lt
  obtain ⟨h1, h2⟩ := h
  refine ⟨h1, ?_⟩
  rcases h2 with h2 | ⟨g, cap, cur, hv, hgb, hh, r⟩
  · exact .inl h2
  · subst hv
    refine .inr ⟨g, cap, cur, rfl, hgb, ?_, r⟩
    rw [hf.block g (hlt g rfl).2 (.inr fun cs t fz e' hT => by rw [hh] at e'; injection e' with e'; injection e' with _ e2; exact ht (by rw [e2]; exact hT))]
    exact hh
theorem own_farB {b0 : Nat} {e : TypeId} {k : Nat} {v : Value} {n : Nat} {xs : List Value} (h : w.ownsRow b0 e k v n xs) (hf : Far base Tp w.heap.size w w') (hl : ∀ g, v.ownBlock = some g → g < base) : w'.ownsRow b0 e k v n xs := by
  have hlt := h.lt
  obtain ⟨h1, h2⟩ := h
  refine ⟨h1, ?_⟩
  rcases h2 with h2 | ⟨g, cap, cur, hv, hgb, hh, r⟩
  · exact .inl h2
  · subst hv
    refine .inr ⟨g, cap, cur, rfl, hgb, ?_, r⟩
    rw [hf.block g (hlt g rfl).2 (.inl (hl g rfl))]
    exact hh
end
/-- Below B all blocks but one are as they were. -/
structure Only (c B : Nat) (w w' : World) : Prop where
  os : w'.os = w.os
  tape : w'.tape = w.tape
  output : w'.output = w.output
  size : w.heap.size ≤ w'.heap.size
  block : ∀ k, k < B → k ≠ c → w'.heap[k]? = w.heap[k]?
theorem Only.of_below {c B : Nat} {w w' : World} (h : Below B w w') : Only c B w w' := ⟨h.os, h.tape, h.output, h.size, fun k hk _ => h.block k hk⟩
theorem Only.set {c B : Nat} {a w : World} (h : Only c B a w) {p : Addr} (hp : p.block = c) (u : Value) : Only c B a (w.setCell p u) :=
  ⟨h.os, h.tape, h.output, (by simpa [World.setCell] using h.size), fun k hk hn => (Below.heap_setCell _ _ _ _ (fun e => hn (by rw [e, hp]))).trans (h.block k hk hn)⟩
theorem Only.below {c B B' : Nat} {w w' : World} (h : Only c B w w') (hB : B' ≤ B) (hc : B' ≤ c) : Below B' w w' := ⟨h.os, h.tape, h.output, h.size, fun k hk => h.block k (by omega) (by omega)⟩
theorem Blk.only {c g : Nat} {w w' : World} {t : TypeId} {cs : Array Value} (h : Blk w g t cs) (hf : Only c w.heap.size w w') (hg : g ≠ c) : Blk w' g t cs := (hf.block g h.lt hg).trans h
theorem own_only {c b0 : Nat} {w w' : World} {e : TypeId} {k : Nat} {v : Value} {n : Nat} {xs : List Value} (h : w.ownsRow b0 e k v n xs) (hf : Only c w.heap.size w w') (hc : ∀ g, v.ownBlock = some g → g ≠ c) : w'.ownsRow b0 e k v n xs := by
  have hlt := h.lt
  obtain ⟨h1, h2⟩ := h
  refine ⟨h1, ?_⟩
  rcases h2 with h2 | ⟨g, cap, cur, hv, hgb, hh, r⟩
  · exact .inl h2
  · subst hv
    refine .inr ⟨g, cap, cur, rfl, hgb, ?_, r⟩
    rw [hf.block g (hlt g rfl).2 (hc g rfl)]
    exact hh
/-- P held in a world whose blocks, all below B, are as they were. -/
def Old (B : Nat) (P : World → Prop) (w : World) : Prop := ∃ w0, P w0 ∧ w0.heap.size ≤ B ∧ Below w0.heap.size w0 w
theorem Old.mk_ {P : World → Prop} {w : World} (h : P w) : Old w.heap.size P w := ⟨w, h, Nat.le_refl _, Below.refl _ _⟩
theorem Old.out {B : Nat} {P : World → Prop} {w : World} (h : Old B P w) (hP : ∀ a b, P a → Below a.heap.size a b → P b) : P w := by
  obtain ⟨w0, h1, _, h3⟩ := h
  exact hP _ _ h1 h3
theorem Old.more {B B' : Nat} {P : World → Prop} {w : World} (h : Old B P w) (hB : B ≤ B') : Old B' P w := by
  obtain ⟨w0, h1, h2, h3⟩ := h
  exact ⟨w0, h1, by omega, h3⟩
theorem Old.below {B : Nat} {P : World → Prop} {w w' : World} (h : Old B P w) (hb : Below w.heap.size w w') : Old B P w' := by
  obtain ⟨w0, h1, h2, h3⟩ := h
  exact ⟨w0, h1, h2, h3.trans (hb.mono h3.size)⟩
theorem Old.below' {B : Nat} {P : World → Prop} {w w' : World} (h : Old B P w) (hb : Below B w w') : Old B P w' := by
  obtain ⟨w0, h1, h2, h3⟩ := h
  exact ⟨w0, h1, h2, h3.trans (hb.mono h2)⟩
theorem Old.far {B base : Nat} {Tp : TypeId → Prop} {P : World → Prop} {w w' : World} (h : Old B P w) (hf : Far base Tp w.heap.size w w') (hb : B ≤ base) : Old B P w' := by
  obtain ⟨w0, h1, h2, h3⟩ := h
  exact ⟨w0, h1, h2, h3.trans (hf.below h3.size (by omega))⟩
theorem Old.only {B c : Nat} {P : World → Prop} {w w' : World} (h : Old B P w) (hf : Only c w.heap.size w w') (hb : B ≤ c) : Old B P w' := by
  obtain ⟨w0, h1, h2, h3⟩ := h
  exact ⟨w0, h1, h2, h3.trans (hf.below h3.size (by omega))⟩
theorem Old.map {B : Nat} {P Q : World → Prop} {w : World} (h : Old B P w) (f : ∀ a, P a → Q a) : Old B Q w := by
  obtain ⟨w0, h1, h2, h3⟩ := h
  exact ⟨w0, f _ h1, h2, h3⟩
theorem Old.and {B : Nat} {P Q : World → Prop} {w : World} (h : Old B P w) (k : Old B Q w) (hP : ∀ a b, P a → Below a.heap.size a b → P b) (hQ : ∀ a b, Q a → Below a.heap.size a b → Q b) : Old B (fun a => P a ∧ Q a) w := by
  obtain ⟨w0, h1, h2, h3⟩ := h
  obtain ⟨w1, k1, k2, k3⟩ := k
  rcases Nat.le_total w0.heap.size w1.heap.size with hs | hs
  · exact ⟨w1, ⟨hP _ _ h1 ⟨k3.os.symm.trans h3.os, k3.tape.symm.trans h3.tape, k3.output.symm.trans h3.output, hs, fun i hi => (k3.block i (by omega)).symm.trans (h3.block i hi)⟩, k1⟩, k2, k3⟩
  · exact ⟨w0, ⟨h1, hQ _ _ k1 ⟨h3.os.symm.trans k3.os, h3.tape.symm.trans k3.tape, h3.output.symm.trans k3.output, hs, fun i hi => (h3.block i (by omega)).symm.trans (k3.block i hi)⟩⟩, h2, h3⟩
/-- Bytes that are old. -/
abbrev OldB (B : Nat) (v : Value) (l : List UInt8) (w : World) : Prop := Old B (fun a => IsB a v l) w
theorem OldB.now {B : Nat} {v : Value} {l : List UInt8} {w : World} (h : OldB B v l w) : IsB w v l := h.out fun _ _ h hb => h.below hb
end Go.Cr
end

/- Rows of things that lie in rows themselves: how a thing is read in cells, owned rows of things that grow by append. No program in sight. -/
section
set_option linter.unusedSimpArgs false
set_option linter.unusedVariables false
namespace Go.Cr
open Go.RowKit

/-- How things lie in k cells, what they lead to in blocks of which S holds. -/
structure Rep (α : Type) where
  k : Nat
  R : (Nat → Prop) → World → List Value → α → Prop
  kpos : 0 < k
  len : ∀ {S : Nat → Prop} {w : World} {cs : List Value} {a : α}, R S w cs a → cs.length = k
  one : ∀ {S : Nat → Prop} {w : World} {cs : List Value} {a : α}, R S w cs a → ∀ u ∈ cs, u.oneCell' = true
  weak : ∀ {S S' : Nat → Prop} {w : World} {cs : List Value} {a : α}, R S w cs a → (∀ b, b < w.heap.size → S b → S' b) → R S' w cs a
  keep : ∀ {S : Nat → Prop} {w w' : World} {cs : List Value} {a : α}, R S w cs a → w.heap.size ≤ w'.heap.size → (∀ b, b < w.heap.size → S b → w'.heap[b]? = w.heap[b]?) → R S w' cs a
section
variable {α : Type} (r : Rep α)
/-- Things one behind another. -/
def RowIn (S : Nat → Prop) (w : World) (xs : List Value) (l : List α) : Prop := xs.length = l.length * r.k ∧ ∀ j (h : j < l.length), r.R S w ((xs.drop (j * r.k)).take r.k) l[j]
/-- v reads as the things l. -/
def IsL (S : Nat → Prop) (w : World) (v : Value) (l : List α) : Prop := ∃ xs, IsRS S w v r.k l.length xs ∧ RowIn r S w xs l
/-- v is the call's own row of things; the row, and what they lead to, lie from base on in blocks of which X holds, the latter in other blocks than the row. -/
def OwL (X : Nat → Prop) (w : World) (base : Nat) (e : TypeId) (v : Value) (l : List α) : Prop := ∃ xs, w.ownsRow base e r.k v l.length xs ∧ (∀ g, v.ownBlock = some g → X g) ∧ RowIn r (fun b => But base v.ownBlock b ∧ X b) w xs l
end
section
variable {α : Type} {r : Rep α} {S S' X X' : Nat → Prop} {w w' : World} {v : Value} {l : List α} {xs : List Value} {base : Nat} {e : TypeId}
theorem RowIn.nil_ : RowIn r S w [] [] := ⟨by simp, fun j hj => absurd hj (by simp)⟩
theorem RowIn.snoc {cs : List Value} {a : α} (h : RowIn r S w xs l) (hp : r.R S w cs a) : RowIn r S w (xs ++ cs) (l ++ [a]) := by
  obtain ⟨h1, h2⟩ := h
  have hl := r.len hp
  refine ⟨by simp [h1, hl, Nat.add_mul], fun j hj => ?_⟩
  simp only [List.length_append, List.length_cons, List.length_nil] at hj
  by_cases hlt : j < l.length
  · rw [List.getElem_append_left hlt]
    have hm : j * r.k + r.k ≤ l.length * r.k := by
      have := Nat.mul_le_mul_right r.k (show j + 1 ≤ l.length by omega)
      rw [Nat.add_mul, Nat.one_mul] at this
      exact this
    have e : ((xs ++ cs).drop (j * r.k)).take r.k = (xs.drop (j * r.k)).take r.k := by
      rw [List.drop_append_of_le_length (by omega), List.take_append_of_le_length (by simp; omega)]
    rw [e]
    exact h2 j hlt
  · have hjk : j = l.length := by omega
    subst hjk
    rw [List.getElem_append_right (Nat.le_refl _)]
    have e : ((xs ++ cs).drop (l.length * r.k)).take r.k = cs := by
      rw [← h1, List.drop_left, List.take_of_length_le (by omega)]
    rw [e]
    simpa using hp
theorem RowIn.weak (h : RowIn r S w xs l) (hs : ∀ b, b < w.heap.size → S b → S' b) : RowIn r S' w xs l := ⟨h.1, fun j hj => r.weak (h.2 j hj) hs⟩
theorem RowIn.keep (h : RowIn r S w xs l) (hsz : w.heap.size ≤ w'.heap.size) (hk : ∀ b, b < w.heap.size → S b → w'.heap[b]? = w.heap[b]?) : RowIn r S w' xs l := ⟨h.1, fun j hj => r.keep (h.2 j hj) hsz hk⟩
theorem RowIn.grown {v' : Value} (h : RowIn r (fun b => But base v.ownBlock b ∧ X b) w xs l) (hg : w.grownBy w' v.ownBlock) (hat : v'.ownBlock = v.ownBlock ∨ v'.ownBlock = some w.heap.size) : RowIn r (fun b => But base v'.ownBlock b ∧ X b) w' xs l := by
  have h2 : RowIn r (fun b => (But base v.ownBlock b ∧ X b) ∧ b < w.heap.size) w xs l := h.weak fun b hlt hS => ⟨hS, hlt⟩
  have h3 : RowIn r (fun b => (But base v.ownBlock b ∧ X b) ∧ b < w.heap.size) w' xs l := h2.keep hg.size fun b hlt hS => hg.block b hlt hS.1.1.2
  refine h3.weak fun b hlt hS => ⟨⟨hS.1.1.1, fun e => ?_⟩, hS.1.2⟩
  rcases hat with hat | hat
  · exact hS.1.1.2 (e.trans hat)
  · rw [hat] at e; injection e with e; omega
theorem IsL.weak (h : IsL r S w v l) (hs : ∀ b, b < w.heap.size → S b → S' b) : IsL r S' w v l := by
  obtain ⟨xs, h1, h2⟩ := h
  exact ⟨xs, h1.weak hs, h2.weak hs⟩
theorem IsL.keep (h : IsL r S w v l) (hsz : w.heap.size ≤ w'.heap.size) (hk : ∀ b, b < w.heap.size → S b → w'.heap[b]? = w.heap[b]?) : IsL r S w' v l := by
  obtain ⟨xs, h1, h2⟩ := h
  exact ⟨xs, h1.keep hsz hk, h2.keep hsz hk⟩
theorem IsL.below (h : IsL r S w v l) (hb : Below w.heap.size w w') : IsL r S w' v l := h.keep hb.size fun b hlt _ => hb.block b hlt
theorem IsL.alloc (h : IsL r S w v l) (o : Obj) : IsL r S (w.alloc o) v l := h.below ((Below.refl _ _).alloc (Nat.le_refl _) o)
theorem IsL.nil_ : IsL r S w (.slice none 0 0) [] := ⟨[], IsRS.nil_ _ _ _, RowIn.nil_⟩
theorem IsL.slice (h : IsL r S w v l) : ∃ A c, v = .slice A l.length c := by
  obtain ⟨xs, ⟨A, c, rfl, _⟩, _⟩ := h
  exact ⟨A, c, rfl⟩
theorem IsL.maxl (h : IsL r S w v l) : (l.length : Int) ≤ 9223372036854775807 := by obtain ⟨xs, h1, _⟩ := h; exact h1.isR.maxl
theorem IsL.len {P : Program} {t e : TypeId} (h : IsL r S w v l) (ht : P.underlying t = some (.slice e)) : ∀ (ty : TypeId) (W : World), (Builtin.len_ #[t] ty #[v]).run P W = .ok (.int .i64 l.length) W := by
  obtain ⟨xs, h1, _⟩ := h; exact h1.isR.len ht
/-- The cells of a thing. -/
theorem IsL.at_ {P : Program} {t e : TypeId} (h : IsL r S w v l) (ht : P.underlying t = some (.slice e)) (hs : ∀ W, (sizeOf e).run P W = .ok r.k W) (kd : IntKind) (i : Nat) (h1 : i < l.length) :
    ∃ b o cs, (∀ W : World, (Instr.indexAt t v (.int kd (i : Int))).run P W = .ok (.pointer (some ⟨b, o, none⟩)) W) ∧ b < w.heap.size ∧ S b ∧ r.R S w cs l[i] ∧ ∀ j x, cs[j]? = some x → w.cell? ⟨b, o + j, none⟩ = some x := by
  obtain ⟨xs, ⟨A, c, rfl, h2, h3, h4, h5⟩, hl, hr⟩ := h
  obtain ⟨b, off, rfl, hb, hS, hc⟩ := h5 (by omega)
  have hR := hr i h1
  refine ⟨b, off + i * r.k, (xs.drop (i * r.k)).take r.k, fun W => ?_, hb, hS, hR, fun j x hj => ?_⟩
  · have hi : (0 ≤ (i : Int) ∧ (i : Int) < (l.length : Int)) := ⟨by omega, by omega⟩
    simp only [Instr.indexAt, asIntOf, Sem.run_bind, Sem.run_pure, Result.andThen, run_underlying ht, if_pos hi, hs]
    simp [Addr.add]
  · have hjk : j < r.k := by
      have h7 := (List.getElem?_eq_some_iff.1 hj).1
      have h8 := r.len hR
      omega
    rw [List.getElem?_take_of_lt hjk, List.getElem?_drop] at hj
    rw [Nat.add_assoc]
    exact hc _ _ hj
theorem OwL.nil_ (X : Nat → Prop) (w : World) (base : Nat) (e : TypeId) : OwL r X w base e (.slice none 0 0) [] := ⟨[], World.ownsRow_nil _ _ _ _, (fun g h => by cases h), RowIn.nil_⟩
/-- The same row, where all blocks that it may lie in are as they were. -/
theorem OwL.keep (h : OwL r X w base e v l) (hsz : w.heap.size ≤ w'.heap.size) (hk : ∀ b, b < w.heap.size → base ≤ b → X b → w'.heap[b]? = w.heap[b]?) : OwL r X w' base e v l := by
  obtain ⟨xs, h1, hX, h2⟩ := h
  refine ⟨xs, ?_, hX, h2.keep hsz fun b hlt hS => hk b hlt hS.1.1 hS.2⟩
  have hlt := h1.lt
  obtain ⟨h3, h4⟩ := h1
  refine ⟨h3, ?_⟩
  rcases h4 with h4 | ⟨g, cap, cur, hv, hgb, hh, q⟩
  · exact .inl h4
  · subst hv
    refine .inr ⟨g, cap, cur, rfl, hgb, ?_, q⟩
    rw [hk g (hlt g rfl).2 hgb (hX g rfl)]
    exact hh
theorem OwL.below (h : OwL r X w base e v l) (hb : Below w.heap.size w w') : OwL r X w' base e v l := h.keep hb.size fun b hlt _ _ => hb.block b hlt
theorem OwL.alloc (h : OwL r X w base e v l) (o : Obj) : OwL r X (w.alloc o) base e v l := h.below ((Below.refl _ _).alloc (Nat.le_refl _) o)
theorem OwL.setLow (h : OwL r X w base e v l) {p : Addr} (hp : p.block < base) (u : Value) : OwL r X (w.setCell p u) base e v l :=
  h.keep (by simp [World.setCell]) fun b _ hb _ => Below.heap_setCell _ _ _ _ (by omega)
theorem OwL.only {c : Nat} (h : OwL r X w base e v l) (hf : Only c w.heap.size w w') (hc : ∀ b, base ≤ b → X b → b ≠ c) : OwL r X w' base e v l := h.keep hf.size fun b hlt hb hx => hf.block b hlt (hc b hb hx)
theorem OwL.weak (h : OwL r X w base e v l) (hx : ∀ b, b < w.heap.size → base ≤ b → X b → X' b) : OwL r X' w base e v l := by
  obtain ⟨xs, h1, hX, h2⟩ := h
  exact ⟨xs, h1, fun g hg => hx g (h1.lt g hg).2 (h1.lt g hg).1 (hX g hg), h2.weak fun b hlt hS => ⟨hS.1, hx b hlt hS.1.1 hS.2⟩⟩
theorem OwL.isL (h : OwL r X w base e v l) : IsL r (fun b => base ≤ b ∧ X b) w v l := by
  obtain ⟨xs, h1, hX, h2⟩ := h
  refine ⟨xs, ?_, h2.weak fun b _ hS => ⟨hS.1.1, hS.2⟩⟩
  obtain ⟨A, c, rfl, q1, q2, q3, q4⟩ := IsRS.of_own h1
  refine ⟨A, c, rfl, q1, q2, q3, fun h0 => ?_⟩
  obtain ⟨b, off, rfl, hb, hS, hc⟩ := q4 h0
  refine ⟨b, off, rfl, hb, ⟨hS, hX b ?_⟩, hc⟩
  rcases h1.2 with ⟨hv, _⟩ | ⟨g, cap, cur, hv, _⟩
  · cases hv
  · injection hv with hv
    injection hv with hv
    injection hv with hv
    subst hv
    rfl
theorem OwL.slice (h : OwL r X w base e v l) : ∃ A c, v = .slice A l.length c := h.isL.slice
theorem OwL.notNew (h : OwL r X w base e v l) {g : Nat} (hg : w.heap.size ≤ g) : some g ≠ v.ownBlock := by
  obtain ⟨xs, h1, _⟩ := h
  intro he
  have := (h1.lt _ he.symm).2
  omega
theorem OwL.notOld (h : OwL r X w base e v l) {g : Nat} (hg : g < base) : some g ≠ v.ownBlock := by
  obtain ⟨xs, h1, _⟩ := h
  intro he
  have := (h1.lt _ he.symm).1
  omega
theorem OwL.more {base' : Nat} (h : OwL r X w base e v l) (hb : base' ≤ base) : OwL r X w base' e v l := by
  obtain ⟨xs, h1, hX, h2⟩ := h
  exact ⟨xs, ownsRow_more h1 hb, hX, h2.weak fun b _ hS => ⟨⟨Nat.le_trans hb hS.1.1, hS.1.2⟩, hS.2⟩⟩
/-- append(v, x), x a row with one thing. -/
theorem run_appL {P : Program} (w : World) (base : Nat) (t ty e : TypeId) (ht : P.underlying t = some (.slice e)) {i : TypeInfo} {z : Value} {bytes : Nat} (hi : P.info? e = some i) (hz : i.zero = some z) (hsize : i.size = r.k) (hby : i.bytes = bytes) (hzs : z.cells.size = r.k) (hb64 : bytes ≤ 64)
    (v : Value) (l : List α) (hown : OwL r X w base e v l) (x : Value) (cs : List Value) (a : α) (hx : IsR w x r.k 1 cs) (ha : r.R (fun b => But base v.ownBlock b ∧ X b) w cs a) (hn : l.length ≤ 1000000) (hbase : base ≤ w.heap.size) (hnew : X w.heap.size) :
    ∃ v' w', (Builtin.append_ #[t, t] ty #[v, x]).run P w = .ok v' w' ∧ OwL r X w' base e v' (l ++ [a]) ∧ Below base w w' ∧ w.grownBy w' v.ownBlock ∧ (v'.ownBlock = v.ownBlock ∨ v'.ownBlock = some w.heap.size) := by
  obtain ⟨xs, h1, hX, h2⟩ := hown
  have hbb : (l.length + 1) * bytes ≤ 140737488355328 := by
    have := Nat.mul_le_mul (show l.length + 1 ≤ 1000001 by omega) hb64
    omega
  obtain ⟨v', w', hr, g1, g2, g3, g4⟩ := run_app2 (P := P) w base t ty e i z r.k bytes ht hi hz hsize hby hzs r.kpos v l.length xs h1 x 1 cs hx (r.one ha) (by unfold maxLen; omega) hbb hbase
  refine ⟨v', w', hr, ⟨xs ++ cs, by rw [List.length_append]; exact g1, fun g hg => ?_, ?_⟩, g3, g2, g4⟩
  · rcases g4 with g4 | g4
    · exact hX g (g4.symm.trans hg)
    · rw [g4] at hg
      injection hg with hg
      subst hg
      exact hnew
  · exact (h2.snoc ha).grown g2 g4
theorem wpList_appL {P : Program} (w : World) {ops : Array Oper} {rest : List Oper} {o : Oper} {a : Act} {Q : Exit → Act → World → Prop} (hgd : o.guard = none) (s y : Operand) (t : TypeId)
    (ho : o.op = .call { callee := .builtin .append, args := #[s, y], argTypes := #[t, t] })
    (base : Nat) (e : TypeId) (ht : P.underlying t = some (.slice e)) {i : TypeInfo} {z : Value} {bytes : Nat} (hi : P.info? e = some i) (hz : i.zero = some z) (hsize : i.size = r.k) (hby : i.bytes = bytes) (hzs : z.cells.size = r.k) (hb64 : bytes ≤ 64)
    (v : Value) (l : List α) (hs : a.eval s = v) (hown : OwL r X w base e v l) (x : Value) (cs : List Value) (b : α) (hyx : a.eval y = x) (hx : IsR w x r.k 1 cs) (hb : r.R (fun b => But base v.ownBlock b ∧ X b) w cs b) (hn : l.length ≤ 1000000) (hbase : base ≤ w.heap.size) (hnew : X w.heap.size)
    (h : ∀ v' w', OwL r X w' base e v' (l ++ [b]) → Below base w w' → w.grownBy w' v.ownBlock → wpList P ops Q rest (a.put o.dst v') w') : wpList P ops Q (o :: rest) a w :=
  wpList_plain hgd fun _ hK => by
    obtain ⟨v', w', hr, h2, h3, h4, _⟩ := run_appL (P := P) w base t o.type e ht hi hz hsize hby hzs hb64 v l hown x cs b hx hb hn hbase hnew
    unfold Oper.wp execOp
    simp only [ho, resolve, invoke, builtin, Sem.run_bind, Sem.run_pure, Result.andThen_ok, List.map_toArray, List.map_cons, List.map_nil, hs, hyx, hr]
    exact hK _ _ (h v' w' h2 h3 h4)
end
theorem one_slice {S : Nat → Prop} {w : World} {v : Value} {k n : Nat} {xs : List Value} (h : IsRS S w v k n xs) : v.oneCell' = true := by
  obtain ⟨A, c, rfl, _⟩ := h
  rfl
/-- Bytes. -/
def repB : Rep (List UInt8) where
  k := 1
  R := fun S w cs l => ∃ v, cs = [v] ∧ IsRS S w v 1 l.length (bCells l)
  kpos := by decide
  len := fun ⟨v, h, _⟩ => by subst h; rfl
  one := fun ⟨v, h, h2⟩ u hu => by subst h; simp at hu; subst hu; exact one_slice h2
  weak := fun ⟨v, h, h2⟩ hs => ⟨v, h, h2.weak hs⟩
  keep := fun ⟨v, h, h2⟩ hsz hk => ⟨v, h, h2.keep hsz hk⟩
/-- A row of things. -/
def repL {α : Type} (r : Rep α) : Rep (List α) where
  k := 1
  R := fun S w cs l => ∃ v, cs = [v] ∧ IsL r S w v l
  kpos := by decide
  len := fun ⟨v, h, _⟩ => by subst h; rfl
  one := fun ⟨v, h, xs, h2, _⟩ u hu => by subst h; simp at hu; subst hu; exact one_slice h2
  weak := fun ⟨v, h, h2⟩ hs => ⟨v, h, h2.weak hs⟩
  keep := fun ⟨v, h, h2⟩ hsz hk => ⟨v, h, h2.keep hsz hk⟩
/-- A text and bytes: an attribute, a qualifier. -/
def repA : Rep (ByteArray × List UInt8) where
  k := 2
  R := fun S w cs a => ∃ v, cs = [.string a.1, v] ∧ IsRS S w v 1 a.2.length (bCells a.2)
  kpos := by decide
  len := fun ⟨v, h, _⟩ => by subst h; rfl
  one := fun ⟨v, h, h2⟩ u hu => by
    subst h; simp at hu
    rcases hu with rfl | rfl
    · rfl
    · exact one_slice h2
  weak := fun ⟨v, h, h2⟩ hs => ⟨v, h, h2.weak hs⟩
  keep := fun ⟨v, h, h2⟩ hsz hk => ⟨v, h, h2.keep hsz hk⟩
/-- A text and a row of things: a policy. -/
def repS {α : Type} (r : Rep α) : Rep (ByteArray × List α) where
  k := 2
  R := fun S w cs a => ∃ v, cs = [.string a.1, v] ∧ IsL r S w v a.2
  kpos := by decide
  len := fun ⟨v, h, _⟩ => by subst h; rfl
  one := fun ⟨v, h, xs, h2, _⟩ u hu => by
    subst h; simp at hu
    rcases hu with rfl | rfl
    · rfl
    · exact one_slice h2
  weak := fun ⟨v, h, h2⟩ hs => ⟨v, h, h2.weak hs⟩
  keep := fun ⟨v, h, h2⟩ hsz hk => ⟨v, h, h2.keep hsz hk⟩
/-- Two texts: a mapping. -/
def repT : Rep (ByteArray × ByteArray) where
  k := 2
  R := fun _ _ cs a => cs = [.string a.1, .string a.2]
  kpos := by decide
  len := fun h => by subst h; rfl
  one := fun h u hu => by
    subst h; simp at hu
    rcases hu with rfl | rfl <;> rfl
  weak := fun h _ => h
  keep := fun h _ _ => h
end Go.Cr
end
