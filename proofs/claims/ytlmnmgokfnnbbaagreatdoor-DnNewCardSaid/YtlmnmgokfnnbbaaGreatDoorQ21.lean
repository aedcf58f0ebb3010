/- The parts Char, Valid, EncT of one proof, one behind the other. -/
import Derived.Test.YtlmnmgokfnnbbaaGreatDoorQ19
import Derived.Test.YtlmnmgokfnnbbaaGreatDoorQ07
import Derived.Test.YtlmnmgokfnnbbaaGreatDoorQ20
import Derived.Lib.OthersKept
import Derived.Deep.RegionHeld3
import Derived.Shelf.Abstract
import Derived.Test.YtlmnmgokfnnbbaaGreatDoorQ05
import Derived.Lib.ConvBytes

/- The characters of the kinds: the closures of forms. -/
section
set_option linter.unusedSimpArgs false
set_option linter.unusedVariables false
namespace Go.Proofs.YtlmnmgokfnnbbaaGreatDoor
open Go.RowKit Go.Cr
def KeepB (B : Nat) (w w' : World) : Prop := ∀ b, B ≤ b → b < w.heap.size → w'.heap[b]? = w.heap[b]?
theorem KeepB.of {B : Nat} {w w' : World} (h : Below w.heap.size w w') : KeepB B w w' := fun b _ hlt => h.block b hlt
def FnAt (B : Nat) (w : World) (f : Value) (p : Int → Bool) : Prop :=
  ∃ (g : Nat) (lb : Array Value), f = .func (.func g) #[] lb ∧ (∀ args W, (callFunc g args).run Tryz.prog W = .ok (.enter g args) W) ∧
    ∀ (W : World) (x : Int), KeepB B w W → 0 ≤ x → x ≤ 1114111 → Calls Tryz.prog g (#[.int .i32 x] ++ lb) W (RetB (.bool (p x)) W)
theorem FnAt.keep {B : Nat} {w w' : World} {f : Value} {p : Int → Bool} (h : FnAt B w f p) (hk : KeepB B w w') (hs : w.heap.size ≤ w'.heap.size) : FnAt B w' f p := by
  obtain ⟨g, lb, rfl, he, hc⟩ := h
  exact ⟨g, lb, rfl, he, fun W x hW h0 h1 => hc W x (fun b hb hlt => (hW b hb (Nat.lt_of_lt_of_le hlt hs)).trans (hk b hb hlt)) h0 h1⟩
theorem FnAt.below {B : Nat} {w w' : World} {f : Value} {p : Int → Bool} (h : FnAt B w f p) (hb : Below w.heap.size w w') : FnAt B w' f p := h.keep (KeepB.of hb) hb.size

def kindF (f20 f26 f22 : Value) (k : Int) : Option (Value × Nat) :=
  if k = 12 then some (fn 188, 0) else if k = 19 then some (fn 184, 1) else if k = 20 then some (f20, 1) else if k = 22 then some (f22, 1) else if k = 26 then some (f26, 1)
  else if k = 28 then some (fn 188, 4) else if k = 30 then some (fn 189, 2) else none
theorem mapF_kind (f20 f26 f22 : Value) (k : Int) : mapF f20 f26 f22 (fun _ => true) k = (kindF f20 f26 f22 k).map fun p => form p.1 p.2 := by
  unfold mapF kindF insF
  simp only [List.findSome?_cons, List.findSome?_nil, and_true]
  repeat' split
  all_goals first | rfl | (simp_all; done) | (exfalso; simp_all; omega)
theorem kindF_width (f20 f26 f22 : Value) (k : Int) : (kindF f20 f26 f22 k).map (·.2) = widthK k := by
  unfold kindF widthK
  repeat' split
  all_goals first | rfl | (exfalso; omega)

def KindOk (k : Int) : Prop := ∀ (B : Nat) (w : World) (gb : Nat) (f26 f22 : Value), B ≤ gb → Blk w gb 167 #[f26] → IsBt B w 32 126 f26 → IsBt B w 0 127 f22 →
  ∀ f n, kindF (.func (.func 187) #[] #[.pointer (some ⟨gb, 0, none⟩)]) f26 f22 k = some (f, n) → FnAt B w f (hasK k)

theorem validRune_okc (r : Int) : Lib.validRune r = okc r := by
  unfold Lib.validRune okc
  rw [Bool.eq_iff_iff]
  simp only [Bool.or_eq_true, Bool.and_eq_true, decide_eq_true_eq, decide_eq_decide]
  try omega
theorem fnAt_valid (B : Nat) (w : World) : FnAt B w (fn 188) okc :=
  ⟨_, _, rfl, enters_of Tryz.func188 (by kernel_rfl) rfl, fun W x _ _ _ => (Tryz.utf8_ValidRune x W).mono fun e w' ⟨he, hw⟩ => by subst hw; rw [he, validRune_okc]; exact ⟨rfl, Below.refl _ _⟩⟩
theorem hasK_valid {k : Int} (h : k = 12 ∨ k = 28) : hasK k = okc := by funext c; unfold hasK; rw [if_pos h]
theorem kindOk_12 : KindOk 12 := fun B w gb f26 f22 _ _ _ _ f n h => by
  simp only [kindF] at h
  injection h with h; injection h with h1 h2
  subst h1
  rw [hasK_valid (.inl rfl)]
  exact fnAt_valid B w
theorem kindOk_28 : KindOk 28 := fun B w gb f26 f22 _ _ _ _ f n h => by
  simp only [kindF] at h
  simp at h
  obtain ⟨rfl, rfl⟩ := h
  rw [hasK_valid (.inr rfl)]
  exact fnAt_valid B w

set_option maxRecDepth 100000 in
set_option maxHeartbeats 4000000 in
theorem betweenFn (lo hi c : Int) (g1 g2 : Nat) (w : World) (h1 : Blk w g1 21 #[.int .i32 lo]) (h2 : Blk w g2 21 #[.int .i32 hi]) :
    Calls Tryz.prog 214 #[.int .i32 c, .pointer (some ⟨g1, 0, none⟩), .pointer (some ⟨g2, 0, none⟩)] w (RetB (.bool (decide (lo ≤ c) && decide (c ≤ hi))) w) := by
  have q1 := h1.q
  have q2 := h2.q
  by_cases ha : lo ≤ c
  · by_cases hb : c ≤ hi
    · rw [decide_eq_true ha, decide_eq_true hb]
      go_enter Tryz.func214, Tryz.ntmps214
      go_wp2_with fail
      (refine bodyPost_retB (v := .bool true) (by (simp only [results, Tryz.results214]; try go_simp)) rfl rfl ?_; ((repeat' (first | (with_reducible exact Below.refl _ _) | (with_reducible assumption) | (with_reducible refine Below.setCell ?_ ?_ _) | (with_reducible refine Below.alloc ?_ ?_ _) | (with_reducible refine Below.drew ?_) | (with_reducible refine below_drewN ?_ _) | (with_reducible refine Below.step (by with_reducible assumption) ?_ ?_))) <;> (first | omega | (simp; done) | (simp; omega))))
    · rw [decide_eq_false hb, Bool.and_false]
      have hb' : hi < c := by omega
      go_enter Tryz.func214, Tryz.ntmps214
      go_wp2_with fail
      (refine bodyPost_retB (v := .bool false) (by (simp only [results, Tryz.results214]; try go_simp)) rfl rfl ?_; ((repeat' (first | (with_reducible exact Below.refl _ _) | (with_reducible assumption) | (with_reducible refine Below.setCell ?_ ?_ _) | (with_reducible refine Below.alloc ?_ ?_ _) | (with_reducible refine Below.drew ?_) | (with_reducible refine below_drewN ?_ _) | (with_reducible refine Below.step (by with_reducible assumption) ?_ ?_))) <;> (first | omega | (simp; done) | (simp; omega))))
  · rw [decide_eq_false ha, Bool.false_and]
    have ha' : c < lo := by omega
    go_enter Tryz.func214, Tryz.ntmps214
    go_wp2_with fail
    (refine bodyPost_retB (v := .bool false) (by (simp only [results, Tryz.results214]; try go_simp)) rfl rfl ?_; ((repeat' (first | (with_reducible exact Below.refl _ _) | (with_reducible assumption) | (with_reducible refine Below.setCell ?_ ?_ _) | (with_reducible refine Below.alloc ?_ ?_ _) | (with_reducible refine Below.drew ?_) | (with_reducible refine below_drewN ?_ _) | (with_reducible refine Below.step (by with_reducible assumption) ?_ ?_))) <;> (first | omega | (simp; done) | (simp; omega))))
theorem fnAt_bt {B : Nat} {w : World} {lo hi : Int} {f : Value} (h : IsBt B w lo hi f) : FnAt B w f (fun c => decide (lo ≤ c) && decide (c ≤ hi)) := by
  obtain ⟨g1, g2, rfl, k1, k2, h1, h2⟩ := h
  exact ⟨_, _, rfl, enters_of Tryz.func214 (by kernel_rfl) rfl, fun W x hW _ _ => betweenFn lo hi x g1 g2 W ((hW _ k1 h1.lt).trans h1) ((hW _ k2 h2.lt).trans h2)⟩
theorem kindOk_22 : KindOk 22 := fun B w gb f26 f22 _ _ _ h22 f n h => by
  simp only [kindF] at h
  simp at h
  obtain ⟨rfl, rfl⟩ := h
  exact fnAt_bt h22
theorem kindOk_26 : KindOk 26 := fun B w gb f26 f22 _ _ h26 _ f n h => by
  simp only [kindF] at h
  simp at h
  obtain ⟨rfl, rfl⟩ := h
  exact fnAt_bt h26

set_option maxRecDepth 100000 in
set_option maxHeartbeats 4000000 in
theorem bmpFn (c : Int) (w : World) (h0 : 0 ≤ c) (h1 : c ≤ 1114111) : Calls Tryz.prog 189 #[.int .i32 c] w (RetB (.bool (okc c && decide (c ≤ 65535))) w) := by
  have HV : Hid (∀ W, Calls Tryz.prog 188 #[.int .i32 c] W (RetB (.bool (okc c)) W)) := fun W => (Tryz.utf8_ValidRune c W).mono fun e w' ⟨he, hw⟩ => by subst hw; rw [he, validRune_okc]; exact ⟨rfl, Below.refl _ _⟩
  generalize okc c = B at *
  by_cases hb : c ≤ 65535
  · rw [decide_eq_true hb, Bool.and_true]
    cases B
    all_goals
      go_enter Tryz.func189, Tryz.ntmps189
      go_wp2_with (((go_at_call 188); (with_reducible refine (HV.out _).mono ?_); rintro e w1 ⟨rfl, hbw1⟩))
      go_ret
      exact ⟨rfl, hbw1⟩
  · rw [decide_eq_false hb, Bool.and_false]
    have hb' := decide_eq_false hb
    cases B
    all_goals
      go_enter Tryz.func189, Tryz.ntmps189
      go_wp2_with (((go_at_call 188); (with_reducible refine (HV.out _).mono ?_); rintro e w1 ⟨rfl, hbw1⟩))
      go_ret
      exact ⟨rfl, hbw1⟩
theorem kindOk_30 : KindOk 30 := fun B w gb f26 f22 _ _ _ _ f n h => by
  simp only [kindF] at h
  simp at h
  obtain ⟨rfl, rfl⟩ := h
  exact ⟨_, _, rfl, enters_of Tryz.func189 (by kernel_rfl) rfl, fun W x _ h0 h1 => bmpFn x W h0 h1⟩

set_option maxRecDepth 100000 in
set_option maxHeartbeats 4000000 in
theorem teleFn (c : Int) (gb : Nat) (f26 : Value) (w : World) (h0 : 0 ≤ c) (h1 : c ≤ 1114111) (hb : Blk w gb 167 #[f26]) {B : Nat} (h26 : IsBt B w 32 126 f26) : Calls Tryz.prog 187 #[.int .i32 c, .pointer (some ⟨gb, 0, none⟩)] w (RetB (.bool (teleC c)) w) := by
  have q1 := hb.q
  obtain ⟨g1, g2, rfl, _, _, k1, k2⟩ := h26
  have HV : Hid (∀ W, Below w.heap.size w W → Calls Tryz.prog 214 #[.int .i32 c, .pointer (some ⟨g1, 0, none⟩), .pointer (some ⟨g2, 0, none⟩)] W (RetB (.bool (visC c)) W)) := fun W hW => betweenFn 32 126 c g1 g2 W (k1.call hW) (k2.call hW)
  clear k1 k2 hb
  unfold teleC
  generalize visC c = B at *
  by_cases ha : 160 ≤ c
  · by_cases hb : c ≤ 255
    · rw [decide_eq_true ha, decide_eq_true hb]
      cases B
      all_goals
        go_enter Tryz.func187, Tryz.ntmps187
        go_wp2_with (((go_at_call 214); (with_reducible refine (HV.out _ (Below.refl _ _)).mono ?_); rintro e w1 ⟨rfl, hbw1⟩))
        go_ret
        exact ⟨rfl, hbw1⟩
    · rw [decide_eq_false hb, Bool.and_false, Bool.or_false]
      have hb' := decide_eq_false hb
      cases B
      all_goals
        go_enter Tryz.func187, Tryz.ntmps187
        go_wp2_with (((go_at_call 214); (with_reducible refine (HV.out _ (Below.refl _ _)).mono ?_); rintro e w1 ⟨rfl, hbw1⟩))
        go_ret
        exact ⟨rfl, hbw1⟩
  · rw [decide_eq_false ha, Bool.false_and, Bool.or_false]
    have ha' : c < 160 := by omega
    cases B
    all_goals
      go_enter Tryz.func187, Tryz.ntmps187
      go_wp2_with (((go_at_call 214); (with_reducible refine (HV.out _ (Below.refl _ _)).mono ?_); rintro e w1 ⟨rfl, hbw1⟩))
      go_ret
      exact ⟨rfl, hbw1⟩
theorem kindOk_20 : KindOk 20 := fun B w gb f26 f22 hgb hb h26 _ f n h => by
  simp only [kindF] at h
  simp at h
  obtain ⟨rfl, rfl⟩ := h
  exact ⟨_, _, rfl, enters_of Tryz.func187 (by kernel_rfl) rfl, fun W x hW h0 h1 => teleFn x gb f26 W h0 h1 ((hW _ hgb hb.lt).trans hb) (h26.keep hW)⟩
end Go.Proofs.YtlmnmgokfnnbbaaGreatDoor
end

/- Walk over charset.Valid. -/
section
set_option linter.unusedSimpArgs false
set_option linter.unusedVariables false
namespace Go.Proofs.YtlmnmgokfnnbbaaGreatDoor
open Go.RowKit Go.Cr
set_option maxRecDepth 100000 in
theorem zForm (w : World) : (zeroValue 169).run Tryz.prog w = .ok (.agg #[.nilFunc, .int .i64 0]) w := by rfl

def LkOk (B : Nat) (w : World) (k : Int) (fv : Value) (nw : Int) : Prop := (widthK k = none ∧ fv = .nilFunc ∧ nw = 0) ∨ ∃ n : Nat, widthK k = some n ∧ nw = n ∧ FnAt B w fv (hasK k)
theorem LkOk.below {B : Nat} {w w' : World} {k : Int} {fv : Value} {nw : Int} (h : LkOk B w k fv nw) (hb : Below w.heap.size w w') : LkOk B w' k fv nw := by
  rcases h with h | ⟨n, h1, h2, h3⟩
  · exact .inl h
  · exact .inr ⟨n, h1, h2, h3.below hb⟩
def FmAt (w : World) (k : Int) (gm : Nat) (fv : Value) (nw : Int) : Prop := ∃ F, HasM intKey w gm F ∧ (F k).getD (.agg #[.nilFunc, .int .i64 0]) = .agg #[fv, .int .i64 nw] ∧ (F k).isSome = (widthK k).isSome
theorem FmAt.below {w w' : World} {k : Int} {gm : Nat} {fv : Value} {nw : Int} (h : FmAt w k gm fv nw) (hb : Below w.heap.size w w') : FmAt w' k gm fv nw := by
  obtain ⟨F, hM, h⟩ := h
  exact ⟨F, hM.keep (hb.block _ hM.lt), h⟩
theorem FmAt.look {w : World} {k : Int} {gm : Nat} {fv : Value} {nw : Int} (h : FmAt w k gm fv nw) : (Instr.lookup 171 (.map (some gm)) (.int .i64 k) true).run Tryz.prog w = .ok (.tuple #[.agg #[fv, .int .i64 nw], .bool (widthK k).isSome]) w := by
  obtain ⟨F, hM, h1, h2⟩ := h
  have := hM.look (P := Tryz.prog) tMapF tIntF (zForm w) k true
  rw [h1, h2] at this
  exact this
def RetFk (k : Int) (w : World) (e : Ending) (w' : World) : Prop := ∃ gm fv nw, e = .returned (.map (some gm)) ∧ w.heap.size ≤ gm ∧ Below w.heap.size w w' ∧ FmAt w' k gm fv nw ∧ LkOk w.heap.size w' k fv nw
theorem formsAt (k : Int) (hk : (widthK k).isSome → KindOk k) (w : World) : Calls Tryz.prog 144 #[] w (RetFk k w) :=
  (forms_any w).mono fun e w' ⟨gm, gb, f26, f22, he, hg, hb, hM, hgb, hB, h26, h22⟩ => by
    have hw := kindF_width (.func (.func 187) #[] #[.pointer (some ⟨gb, 0, none⟩)]) f26 f22 k
    have hm := mapF_kind (.func (.func 187) #[] #[.pointer (some ⟨gb, 0, none⟩)]) f26 f22 k
    cases hc : kindF (.func (.func 187) #[] #[.pointer (some ⟨gb, 0, none⟩)]) f26 f22 k with
    | none =>
      rw [hc] at hw hm
      simp only [Option.map_none] at hw hm
      exact ⟨gm, _, _, he, hg, hb, ⟨_, hM, by rw [hm]; rfl, by rw [hm, ← hw]; rfl⟩, .inl ⟨hw.symm, rfl, rfl⟩⟩
    | some p =>
      obtain ⟨f, n⟩ := p
      rw [hc] at hw hm
      simp only [Option.map_some] at hw hm
      exact ⟨gm, _, _, he, hg, hb, ⟨_, hM, by rw [hm]; rfl, by rw [hm, ← hw]; rfl⟩, .inr ⟨n, hw.symm, rfl, hk (by rw [← hw]; rfl) w.heap.size w' gb f26 f22 hgb hB h26 h22 f n hc⟩⟩

def RetFn (k : Int) (w : World) (e : Ending) (w' : World) : Prop := ∃ gm, e = .returned (.map (some gm)) ∧ w.heap.size ≤ gm ∧ Below w.heap.size w w' ∧ FmAt w' k gm .nilFunc 0
def RetFy (k : Int) (n : Nat) (w : World) (e : Ending) (w' : World) : Prop := ∃ gm g lb, e = .returned (.map (some gm)) ∧ w.heap.size ≤ gm ∧ Below w.heap.size w w' ∧ FmAt w' k gm (.func (.func g) #[] lb) (n : Int) ∧ FnAt w.heap.size w' (.func (.func g) #[] lb) (hasK k)
theorem formsNo (k : Int) (hk : widthK k = none) (w : World) : Calls Tryz.prog 144 #[] w (RetFn k w) :=
  (formsAt k (fun h => by rw [hk] at h; cases h) w).mono fun e w' ⟨gm, fv, nw, he, hg, hb, hF, hL⟩ => by
    rcases hL with ⟨_, rfl, rfl⟩ | ⟨n, hn, _⟩
    · exact ⟨gm, he, hg, hb, hF⟩
    · rw [hk] at hn; cases hn
theorem formsYes (k : Int) (n : Nat) (hk : widthK k = some n) (hK : KindOk k) (w : World) : Calls Tryz.prog 144 #[] w (RetFy k n w) :=
  (formsAt k (fun _ => hK) w).mono fun e w' ⟨gm, fv, nw, he, hg, hb, hF, hL⟩ => by
    rcases hL with ⟨hn, _⟩ | ⟨m, hn, rfl, hA⟩
    · rw [hk] at hn; cases hn
    · rw [hk] at hn
      injection hn with hn
      subst hn
      obtain ⟨g, lb, rfl, h⟩ := hA
      exact ⟨gm, g, lb, he, hg, hb, hF, ⟨g, lb, rfl, h⟩⟩

set_option maxRecDepth 100000 in
set_option maxHeartbeats 4000000 in
theorem valid_no (k : Int) (s : ByteArray) (w : World) (hk : widthK k = none) : Calls Tryz.prog 139 #[.agg #[.int .i64 k, .string s]] w (RetB (.bool false) w) := by
  have HR : Hid (∀ W, Calls Tryz.prog 144 #[] W (RetFn k W)) := formsNo k hk
  have HK : Hid ((widthK k).isSome = false) := by rw [hk]; rfl
  clear hk
  go_enter Tryz.func139, Tryz.ntmps139
  go_wp2_with fail
  go_region_held3 (fun W' => W'.cell? ⟨w.heap.size, 0, none⟩ = some (.int .i64 k))
    (first | go_keep | exact (hbw1.cell (p := ⟨w.heap.size, 0, none⟩) (by simp; try omega)).trans (by simp [*]) | (trace_state; fail))
    (first | ((go_at_call 144); (with_reducible refine (HR.out (World.drew (World.alloc w _))).mono ?_); rintro e w1 ⟨gm, rfl, hgm, hbw1, hF⟩; have HF := Lib.hid hF; clear hF; have k1 := HF.out.look; have k2 := fun o => (HF.out.below ((Below.refl _ w1).alloc (Nat.le_refl _) o)).look; rw [HK.out] at k1; simp only [HK.out] at k2) | ((go_at_call 144); (with_reducible refine (HR.out (World.drew (World.alloc (World.alloc w _) _))).mono ?_); rintro e w1 ⟨gm, rfl, hgm, hbw1, hF⟩; have HF := Lib.hid hF; clear hF; have k1 := HF.out.look; rw [HK.out] at k1; have J0 := Blk.call (Blk.drew (Blk.new _ 169 #[.nilFunc, .int .i64 0])) hbw1; have qJ := J0.q; have fJ := J0.fz; simp at qJ fJ))
  all_goals
    go_wp2_with fail
    have sz := hbw1.size
    simp at sz
    go_ret
    exact ⟨by (first | rfl | simp), by ((repeat' (first | (with_reducible exact Below.refl _ _) | (with_reducible assumption) | (with_reducible refine Below.setCell ?_ ?_ _) | (with_reducible refine Below.alloc ?_ ?_ _) | (with_reducible refine Below.drew ?_) | (with_reducible refine below_drewN ?_ _) | (with_reducible refine Below.step (by with_reducible assumption) ?_ ?_))) <;> (first | omega | (simp; done) | (simp; omega)))⟩

def CutV (k : Int) (s : ByteArray) (n : Nat) (w : World) (t3 t4 : Value) (wx : World) : Prop :=
  ∃ gf g lb, t3 = .pointer (some ⟨gf, 0, none⟩) ∧ t4 = .bool true ∧ w.heap.size < gf ∧ Blk wx gf 169 #[.func (.func g) #[] lb, .int .i64 (n : Int)] ∧ Blk wx w.heap.size 97 #[.int .i64 k, .string s] ∧ (∃ B, FnAt B wx (.func (.func g) #[] lb) (hasK k)) ∧ Below w.heap.size w wx

def ValRel (k : Int) (s : ByteArray) (cs : List Nat) (w wq : World) (wr : World) : Prop :=
  ∃ (pos : Nat) (pre rest : List Nat), cs = pre ++ rest ∧ pts (s.data.toList.drop pos) = some rest ∧ pos ≤ s.size ∧ (∀ c ∈ pre, hasK k (c : Int) = true) ∧ wr.heap[wq.heap.size]? = some (.stringIter s pos) ∧ Below wq.heap.size wq wr
set_option maxRecDepth 100000 in
set_option maxHeartbeats 4000000 in
theorem valid_yes (k : Int) (s : ByteArray) (n : Nat) (w : World) (hk : widthK k = some n) (hK : KindOk k) (hG : Glo w) (hs : s.size ≤ 1000000000) : Calls Tryz.prog 139 #[.agg #[.int .i64 k, .string s]] w (RetB (.bool (validT k s.data.toList)) w) := by
  have HR : Hid (∀ W, Calls Tryz.prog 144 #[] W (RetFy k n W)) := formsYes k n hk hK
  have HK : Hid ((widthK k).isSome = true) := by rw [hk]; rfl
  have HG := Lib.hid hG
  have HV : Hid (∀ W, Glo W → Calls Tryz.prog 179 #[.string s] W (RetB (.bool (Lib.validD s.data.toList)) W)) := fun W hW => (Any.utf8_ValidString Tryz.laysValid s W (by omega) hW.utf).mono fun e w' h => h
  have HS := Lib.hid hs
  have HW := Lib.hid hk
  clear hk hK hG hs
  obtain ⟨VB, hVB⟩ : ∃ VB, validT k s.data.toList = VB := ⟨_, rfl⟩
  rw [hVB]
  have HVB := Lib.hid hVB
  clear hVB
  go_enter Tryz.func139, Tryz.ntmps139
  go_upto_region 1 with fail
  go_cut [3, 4] from 7 to 13 (fun t3 t4 wx => CutV k s n w t3 t4 wx)
  case first =>
    go_region_held3 (fun W' => W'.cell? ⟨w.heap.size, 0, none⟩ = some (.int .i64 k))
      (first | go_keep | exact (hbw1.cell (p := ⟨w.heap.size, 0, none⟩) (by simp; try omega)).trans (by simp [*]) | exact (Blk.q I0 0).trans rfl | exact (Blk.q (Blk.alloc I0 _) 0).trans rfl | (trace_state; fail))
      (first | ((go_at_call 144); (with_reducible refine (HR.out (World.drew (World.alloc w _))).mono ?_); rintro e w1 ⟨gm, g, lb, rfl, hgm, hbw1, hF, hA⟩; have HF := Lib.hid hF; have HA := Lib.hid hA; clear hF hA; have k1 := HF.out.look; have k2 := fun o => (HF.out.below ((Below.refl _ w1).alloc (Nat.le_refl _) o)).look; rw [HK.out] at k1; simp only [HK.out] at k2; have I0 := Blk.call (Blk.drew (Blk.new w 97 #[.int .i64 k, .string s])) hbw1) | ((go_at_call 144); (with_reducible refine (HR.out (World.drew (World.alloc (World.alloc w _) _))).mono ?_); rintro e w1 ⟨gm, g, lb, rfl, hgm, hbw1, hF, hA⟩; have HF := Lib.hid hF; have HA := Lib.hid hA; clear hF hA; have k1 := HF.out.look; rw [HK.out] at k1; have J0 := Blk.call (Blk.drew (Blk.new _ 169 #[.nilFunc, .int .i64 0])) hbw1; have qJ := J0.q; have fJ := J0.fz; simp at qJ fJ; have I0 := Blk.call (Blk.drew (Blk.alloc (Blk.new w 97 #[.int .i64 k, .string s]) _)) hbw1))
    · go_wp2_with fail
      go_meet
      have sz := hbw1.size
      simp at sz
      exact ⟨w1.heap.size, g, lb, rfl, rfl, by omega, Blk.new _ _ _, I0.alloc _, ⟨_, HA.out.below ((Below.refl _ _).alloc (Nat.le_refl _) _)⟩, by ((repeat' (first | (with_reducible exact Below.refl _ _) | (with_reducible assumption) | (with_reducible refine Below.setCell ?_ ?_ _) | (with_reducible refine Below.alloc ?_ ?_ _) | (with_reducible refine Below.drew ?_) | (with_reducible refine below_drewN ?_ _) | (with_reducible refine Below.step (by with_reducible assumption) ?_ ?_))) <;> (first | omega | (simp; done) | (simp; omega)))⟩
    · go_wp2_with fail
      go_meet
      have sz := hbw1.size
      simp at sz
      exact ⟨w1.heap.size, g, lb, rfl, rfl, by omega, Blk.new _ _ _, I0.alloc _, ⟨_, HA.out.below ((Below.refl _ _).alloc (Nat.le_refl _) _)⟩, by ((repeat' (first | (with_reducible exact Below.refl _ _) | (with_reducible assumption) | (with_reducible refine Below.setCell ?_ ?_ _) | (with_reducible refine Below.alloc ?_ ?_ _) | (with_reducible refine Below.drew ?_) | (with_reducible refine below_drewN ?_ _) | (with_reducible refine Below.step (by with_reducible assumption) ?_ ?_))) <;> (first | omega | (simp; done) | (simp; omega)))⟩
    · go_wp2_with fail
      go_meet
      have sz := hbw1.size
      simp at sz
      have eJ : (w.alloc (.cells #[.int .i64 k, .string s] 97)).heap.size = w.heap.size + 1 := by simp
      rw [eJ] at J0
      refine ⟨w.heap.size + 1, g, lb, rfl, rfl, by omega, (J0.set_ 0 _).set_ 1 _, (I0.far (p := ⟨w.heap.size + 1, 0, none⟩) (by simp) _).far (p := ⟨w.heap.size + 1, 1, none⟩) (by simp) _, ⟨_, HA.out.keep (fun b hb hlt => ?_) (by simp)⟩, by ((repeat' (first | (with_reducible exact Below.refl _ _) | (with_reducible assumption) | (with_reducible refine Below.setCell ?_ ?_ _) | (with_reducible refine Below.alloc ?_ ?_ _) | (with_reducible refine Below.drew ?_) | (with_reducible refine below_drewN ?_ _) | (with_reducible refine Below.step (by with_reducible assumption) ?_ ?_))) <;> (first | omega | (simp; done) | (simp; omega)))⟩
      simp at hb
      rw [Below.heap_setCell _ _ _ _ (by simp; omega), Below.heap_setCell _ _ _ _ (by simp; omega)]
  case rest =>
    obtain ⟨gf, g, lb, rfl, rfl, hgf, KF, KT, ⟨B, hA⟩, hbc⟩ := hcut
    have qF := KF.q
    have qT := KT.q
    have lF := KF.lt
    have HKF := Lib.hid KF
    have HKT := Lib.hid KT
    have HA := Lib.hid hA
    have HB := Lib.hid hbc
    have HG2 := Lib.hid (HG.out.below hbc)
    clear KF KT hA hbc
    cases hp : pts s.data.toList with
    | none =>
      have hVT : validT k s.data.toList = false := by unfold validT; rw [hp, Bool.and_false]
      obtain rfl : VB = false := HVB.out.symm.trans hVT
      have HV2 : Hid (∀ W, Glo W → Calls Tryz.prog 179 #[.string s] W (RetB (.bool false) W)) := fun W h => by have := HV.out W h; rw [validD_pts, hp] at this; exact this
      clear hVT hp
      go_wp2_with (((go_at_call 179); (with_reducible refine (HV2.out _ HG2.out).mono ?_); rintro e w2 ⟨rfl, hbw2⟩))
      go_ret
      exact ⟨rfl, HB.out.trans (hbw2.mono HB.out.size)⟩
    | some cs =>
      have HP := Lib.hid hp
      have HV2 : Hid (∀ W, Glo W → Calls Tryz.prog 179 #[.string s] W (RetB (.bool true) W)) := fun W h => by have := HV.out W h; rw [validD_pts, hp] at this; exact this
      clear hp
      go_wp2_with (((go_at_call 179); (with_reducible refine (HV2.out _ HG2.out).mono ?_); rintro e w2 ⟨rfl, hbw2⟩; have qT2 := (HKT.out.call hbw2).q; have qF2 := (HKF.out.call hbw2).q))
      have HB2 := Lib.hid (HB.out.trans (hbw2.mono HB.out.size))
      obtain ⟨g', lb', e, eg, hc⟩ := HA.out
      injection e with e1 e2 e3
      injection e1 with e1
      subst e1 e3
      have HC := Lib.hid hc
      have HW2 := Lib.hid hbw2
      have HF2 := Lib.hid (HKF.out.call hbw2)
      have HGF := Lib.hid (Nat.lt_of_lt_of_le lF hbw2.size)
      clear hc qF qT qT2 qF2 hbw2 e2 HR
      go_loopw [] (fun wr => ValRel k s cs w w2 wr) (fun wr => s.size - wr.iterPos w2.heap.size)
      case atStart =>
        refine ⟨0, [], cs, rfl, HP.out, Nat.zero_le _, by simp, ?_, (Below.refl _ _).alloc (Nat.le_refl _) _⟩
        have := World.iter_heap w2 s 0
        simpa using this
      case round =>
        obtain ⟨pos, pre, rest, hcs, hpt, hle, hpre, hit, hbel⟩ := hrel
        have hsz : w2.heap.size < wr.heap.size := (Array.getElem?_eq_some_iff.1 hit).1
        have HCS := Lib.hid hcs
        have HPT := Lib.hid hpt
        have HPRE := Lib.hid hpre
        clear hcs hpt hpre
        by_cases hp : pos < s.size
        · have hnx : ∀ ty, (Instr.next (.pointer (some ⟨w2.heap.size, 0, none⟩)) true ty).run Tryz.prog wr = _ := fun ty => Lib.run_next_any_at wr w2.heap.size s pos ty hit hp
          have hne : s.data.toList.drop pos ≠ [] := fun e => by
            have h1 := congrArg List.length e
            have h2 : s.data.toList.length = s.size := rfl
            simp only [List.length_drop, List.length_nil] at h1
            omega
          have hdl := Lib.decodeL_drop s pos
          have hst := HPT.out
          rw [pts_step _ hne, hdl] at hst
          obtain ⟨rest', hr', hrr, hok⟩ : ∃ rest', rest = (Utf8.decode s pos).1 :: rest' ∧ pts (s.data.toList.drop (pos + (Utf8.decode s pos).2)) = some rest' ∧ okc ((Utf8.decode s pos).1 : Int) = true := by
            split at hst
            · cases hst
            · rename_i hv
              rw [List.drop_drop] at hst
              cases hq : pts (s.data.toList.drop (pos + (Utf8.decode s pos).2)) with
              | none => rw [hq] at hst; cases hst
              | some t =>
                rw [hq] at hst
                injection hst with hst
                exact ⟨t, hst.symm, rfl, by have := dec_ok (s.data.toList.drop pos) (by rw [hdl]; exact hv); rw [hdl] at this; exact this⟩
          have hwid : pos + (Utf8.decode s pos).2 ≤ s.size := by
            have h1 := Lib.decodeL_le (s.data.toList.drop pos) hne
            rw [hdl, List.length_drop] at h1
            have h2 : s.data.toList.length = s.size := rfl
            omega
          have hwd1 : 1 ≤ (Utf8.decode s pos).2 := by have := Lib.decodeL_width (s.data.toList.drop pos); rw [hdl] at this; exact this
          have hcp : (0 : Int) ≤ ((Utf8.decode s pos).1 : Int) ∧ ((Utf8.decode s pos).1 : Int) ≤ 1114111 := by have := okc_iff.1 hok; omega
          have hit2 := Lib.iterAt_heap wr w2.heap.size s pos (pos + (Utf8.decode s pos).2) hit
          have hbel2 := Lib.below_iterAt hbel (k := w2.heap.size) (Nat.le_refl _) s (pos + (Utf8.decode s pos).2)
          have qF3 := (HF2.out.below hbel2 HGF.out).q
          have hcall := HC.out (wr.iterAt w2.heap.size s (pos + (Utf8.decode s pos).2)) ((Utf8.decode s pos).1 : Int) (fun b _ hlt => (hbel2.block b (Nat.lt_of_lt_of_le hlt HW2.out.size)).trans (HW2.out.block b hlt)) hcp.1 hcp.2
          have HIT := Lib.hid hit2
          have HBL := Lib.hid hbel2
          have HRR := Lib.hid hrr
          have HR' := Lib.hid hr'
          have HWI := Lib.hid hwid
          have HWD := Lib.hid hwd1
          have HIT0 := Lib.hid hit
          clear hst hdl hne hok hbel hit2 hbel2 hrr hr' hwid hwd1 hle hit hcp
          generalize Utf8.decode s pos = dd at *
          cases hq : hasK k (dd.1 : Int) with
          | true =>
            have HQ := Lib.hid hq
            rw [hq] at hcall
            clear hq
            go_wp2_with (go_at_fn g; refine hcall.mono ?_; rintro e w3 ⟨rfl, hbw3⟩)
            have hb3 : Below w2.heap.size w2 w3 := HBL.out.trans (hbw3.mono HBL.out.size)
            have hit3 : w3.heap[w2.heap.size]? = some (.stringIter s (pos + dd.2)) := (hbw3.block _ (by rw [Lib.iterAt_size]; exact hsz)).trans HIT.out
            go_roundw
            case rel =>
              refine ⟨pos + dd.2, pre ++ [dd.1], rest', by rw [HCS.out, HR'.out]; simp, HRR.out, HWI.out, fun c hc => ?_, hit3, hb3⟩
              rcases List.mem_append.1 hc with hc | hc
              · exact HPRE.out c hc
              · rw [List.mem_singleton] at hc; subst hc; exact HQ.out
            case measure =>
              have h1 := HWD.out
              simp only [World.iterPos, hit3, HIT0.out]
              omega
          | false =>
            have hVT : validT k s.data.toList = false := by
              cases hv : validT k s.data.toList with
              | false => rfl
              | true =>
                obtain ⟨_, cs', h1, h2⟩ := validT_iff.1 hv
                rw [HP.out] at h1
                injection h1 with h1
                subst h1
                have := h2 dd.1 (by rw [HCS.out, HR'.out]; simp)
                rw [hq] at this
                cases this
            obtain rfl : VB = false := HVB.out.symm.trans hVT
            rw [hq] at hcall
            clear hq hVT
            go_wp2_with (go_at_fn g; refine hcall.mono ?_; rintro e w3 ⟨rfl, hbw3⟩)
            have hb3 : Below w2.heap.size w2 w3 := HBL.out.trans (hbw3.mono HBL.out.size)
            go_ret
            exact ⟨rfl, HB2.out.trans (hb3.mono HB2.out.size)⟩
        · have hnx : ∀ ty, (Instr.next (.pointer (some ⟨w2.heap.size, 0, none⟩)) true ty).run Tryz.prog wr = _ := fun ty => Lib.run_next_end_at wr w2.heap.size s pos ty hit hp
          have hVT : validT k s.data.toList = true := by
            refine validT_iff.2 ⟨HK.out, cs, HP.out, fun c hc => ?_⟩
            have h1 := HPT.out
            rw [List.drop_eq_nil_of_le (show s.data.toList.length ≤ pos from by have h2 : s.data.toList.length = s.size := rfl; omega), pts_nil] at h1
            injection h1 with h1
            rw [HCS.out, ← h1, List.append_nil] at hc
            exact HPRE.out c hc
          obtain rfl : VB = true := HVB.out.symm.trans hVT
          have HB3 := Lib.hid hbel
          clear hVT hbel
          go_wp2
          go_ret
          exact ⟨rfl, HB2.out.trans (HB3.out.mono HB2.out.size)⟩

theorem valid_any (k : Int) (s : ByteArray) (w : World) (hK : (widthK k).isSome = true → KindOk k) (hG : Glo w) (hs : s.size ≤ 1000000000) : Calls Tryz.prog 139 #[.agg #[.int .i64 k, .string s]] w (RetB (.bool (validT k s.data.toList)) w) := by
  cases hw : widthK k with
  | none =>
    have : validT k s.data.toList = false := by unfold validT; rw [hw]; rfl
    rw [this]
    exact valid_no k s w hw
  | some n => exact valid_yes k s n w hw (hK (by rw [hw]; rfl)) hG hs
end Go.Proofs.YtlmnmgokfnnbbaaGreatDoor
end

/- Walk over charset.Encode. -/
section
set_option linter.unusedSimpArgs false
set_option linter.unusedVariables false
namespace Go.Proofs.YtlmnmgokfnnbbaaGreatDoor
open Go.RowKit Go.Cr
def RetEn (o : Option (List UInt8)) (w : World) (e : Ending) (w' : World) : Prop :=
  Below w.heap.size w w' ∧ ((o = none ∧ e = .returned (.tuple #[.slice none 0 0, .int .i64 8])) ∨ ∃ c v, o = some c ∧ e = .returned (.tuple #[v, .int .i64 0]) ∧ IsB w' v c)
def RetEnY (c : List UInt8) (w : World) (e : Ending) (w' : World) : Prop := ∃ v, e = .returned (.tuple #[v, .int .i64 0]) ∧ IsB w' v c ∧ Below w.heap.size w w'
theorem RetEn.yes {c : List UInt8} {w : World} {e : Ending} {w' : World} (h : RetEn (some c) w e w') : RetEnY c w e w' := by
  obtain ⟨hb, ⟨h, _⟩ | ⟨c', v, h, he, hv⟩⟩ := h
  · cases h
  · injection h with h; subst h; exact ⟨v, he, hv, hb⟩
theorem RetEn.no {w : World} {e : Ending} {w' : World} (h : RetEn none w e w') : RetB (.tuple #[.slice none 0 0, .int .i64 8]) w e w' := by
  obtain ⟨hb, ⟨_, he⟩ | ⟨c', v, h, _⟩⟩ := h
  · exact ⟨he, hb⟩
  · cases h
end Go.Proofs.YtlmnmgokfnnbbaaGreatDoor
end
