/- Walks over Tags, in the program and in the reference. -/
import Derived.Test.YtecbphbnacbepaaBase
import Derived.Test.YtecbphbnacbepaaShelf
import Derived.Laws.Strings2
import Derived.Laws.Concat
set_option linter.unusedSimpArgs false
set_option linter.unusedVariables false
namespace Go.Proofs.Ytecbphbnacbepaa
open Go.RowKit Go.Cr

def digs : List UInt8 := [48, 49, 50, 51, 52, 53, 54, 55, 56, 57, 97, 98, 99, 100, 101, 102]
def dg (i : Int) : ByteArray := ⟨#[digs.getD i.toNat 0]⟩
theorem dg_size (i : Int) : (dg i).size = 1 := rfl
theorem slice_dg (i : Int) (W : World) (h0 : 0 ≤ i) (h1 : i < 16) :
    (Instr.slice 9 (.string ⟨#[48, 49, 50, 51, 52, 53, 54, 55, 56, 57, 97, 98, 99, 100, 101, 102]⟩) (some (.int .u8 i)) (some (.int .u8 (i + 1))) none).run Try.prog W = .ok (.string (dg i)) W := by
  rw [run_slice_string W _ _ _ _ _ _ ulStr h0 (by omega) (by show i + 1 ≤ ((16 : Nat) : Int); omega)]
  congr 2
  obtain ⟨m, rfl⟩ : ∃ m : Nat, i = m := ⟨i.toNat, by omega⟩
  have hm : m < 16 := by omega
  match m, hm with
  | 0, _ => rfl
  | 1, _ => rfl
  | 2, _ => rfl
  | 3, _ => rfl
  | 4, _ => rfl
  | 5, _ => rfl
  | 6, _ => rfl
  | 7, _ => rfl
  | 8, _ => rfl
  | 9, _ => rfl
  | 10, _ => rfl
  | 11, _ => rfl
  | 12, _ => rfl
  | 13, _ => rfl
  | 14, _ => rfl
  | 15, _ => rfl
theorem u8_and_15 (n : Int) (h0 : 0 ≤ n) (h1 : n < 256) : bits .and .u8 n 15 = n % 16 := bits_mask .u8 8 (by decide) wraps_u8 4 (by decide) _ h0 h1

/-- The identifier octet of an element, as a number. -/
def idI (x : Elem) : Int := x.cls * 64 + x.num + if x.con then 32 else 0
def idOk (x : Elem) : Prop := 0 ≤ x.cls ∧ x.cls ≤ 3 ∧ 0 ≤ x.num ∧ x.num < 31
instance (x : Elem) : Decidable (idOk x) := inferInstanceAs (Decidable (_ ∧ _))
def wordOf (x : Elem) : ByteArray := if idOk x then dg (idI x / 16) ++ dg (idI x % 16) else ⟨#[63, 63]⟩
theorem wordOf_size (x : Elem) : (wordOf x).size = 2 := by unfold wordOf; split <;> rfl
def tagsL (xs : List Elem) : List UInt8 := Lib.join (xs.map fun x => (wordOf x).data.toList) [32]

theorem infoS : (Try.prog.info? 9).map (fun i => (i.zero, i.size, i.bytes)) = some (some (.string ByteArray.empty), 1, 16) := by kernel_rfl
theorem ulSs : Try.prog.underlying 54 = some (.slice 9) := by kernel_rfl

def sCells (xs : List Elem) : List Value := xs.map fun x => .string (wordOf x)
theorem sCells_succ (xs : List Elem) (k : Nat) (h : k < xs.length) : sCells (xs.take (k + 1)) = sCells (xs.take k) ++ [.string (wordOf xs[k])] := by
  unfold sCells
  rw [List.take_succ_eq_append_getElem h, List.map_append]; rfl

def TgRel (xs : List Elem) (w : World) (i out : Value) (wr : World) : Prop :=
  ∃ k : Nat, k ≤ xs.length ∧ i = .int .i64 k ∧ wr.ownsRow w.heap.size 9 1 out k (sCells (xs.take k)) ∧ Below w.heap.size w wr

theorem join_len (ys : List (List UInt8)) (h : ∀ y ∈ ys, y.length ≤ 2) : (Lib.join ys [32]).length ≤ 3 * ys.length := by
  cases ys with
  | nil => simp [Lib.join_nil]
  | cons y r =>
    rw [Lib.join_cons, List.length_append]
    have h1 : y.length ≤ 2 := h y (by simp)
    have h2 : ∀ r : List (List UInt8), (∀ y ∈ r, y.length ≤ 2) → (Lib.joinTail [32] r).length ≤ 3 * r.length := by
      intro r
      induction r with
      | nil => intro _; simp [Lib.joinTail]
      | cons z r ih =>
        intro hr
        have := ih (fun y hy => hr y (by simp [hy]))
        have hz : z.length ≤ 2 := hr z (by simp)
        simp only [Lib.joinTail, List.map_cons, List.flatten_cons, List.length_append, List.length_cons, List.length_nil] at *
        omega
    have := h2 r (fun y hy => h y (by simp [hy]))
    simp only [List.length_cons]; omega

theorem join_any (v : Value) (xs : List Elem) (base : Nat) (w : World) (hv : w.ownsRow base 9 1 v xs.length (sCells xs)) (hn : xs.length ≤ 1000000) :
    Calls Try.prog 33 #[v, .string ⟨#[32]⟩] w (RetB (.string ⟨(tagsL xs).toArray⟩) w) := by
  have hl : (tagsL xs).length ≤ 3 * xs.length := by
    have := join_len (xs.map fun x => (wordOf x).data.toList) (by
      intro y hy; simp only [List.mem_map] at hy; obtain ⟨x, _, rfl⟩ := hy
      have := wordOf_size x
      simp only [ByteArray.size, Array.length_toList] at this ⊢; omega)
    simpa [tagsL] using this
  obtain ⟨A, c, rfl, h1, h2, h3, h4⟩ := IsR.of_own hv
  by_cases h0 : 0 < xs.length
  · obtain ⟨b, off, rfl, hb, hc⟩ := h4 h0
    have hj := Try.strings_Join b off c (xs.map wordOf) ⟨#[32]⟩ w (fun j x hx => hc j _ (by
      simp only [List.getElem?_map] at hx
      simp only [sCells, List.getElem?_map]
      cases hx' : xs[j]? with
      | none => rw [hx'] at hx; simp at hx
      | some y => rw [hx'] at hx; simp only [Option.map_some, Option.some.injEq] at hx; subst hx; simp)) hb (by simp; omega) (by simpa using h1) (by
        have : (xs.map wordOf).map (·.data.toList) = xs.map fun x => (wordOf x).data.toList := by simp
        rw [this]; show (tagsL xs).length ≤ _; omega)
    have he : (xs.map wordOf).map (·.data.toList) = xs.map fun x => (wordOf x).data.toList := by simp
    rw [he, List.length_map] at hj
    exact hj
  · have : xs = [] := List.length_eq_zero_iff.1 (by omega)
    subst this
    refine (Try.strings_Join_none A c ⟨#[32]⟩ w).mono ?_
    rintro e w' ⟨rfl, rfl⟩
    exact ⟨rfl, Below.refl _ _⟩
end Go.Proofs.Ytecbphbnacbepaa
