/- The parts Str, StrF of one proof, one behind the other. -/
import Derived.Test.YtlmnmgokfnnbbaaGreatDoorL25
import Derived.Test.YtlmnmgokfnnbbaaGreatDoorL18
import Derived.Test.YtlmnmgokfnnbbaaGreatDoorL28

/- Walks over attribute.String, FromString, Directory. -/
section
set_option linter.unusedSimpArgs false
set_option linter.unusedVariables false
namespace Go.Proofs.YtlmnmgokfnnbbaaGreatDoor
open Go.RowKit Go.Cr
def strD (b : List UInt8) : Option (Int × List UInt8) :=
  match oneE b with
  | .ok x => if x.cls = 0 ∧ x.con = false then (decT x.num (seg b x.body x.stop)).map (fun s => (x.num, s)) else none
  | .error _ => none
def txV : Option (Int × List UInt8) → Value
  | none => .agg #[.int .i64 0, .string ⟨#[]⟩]
  | some (k, s) => .agg #[.int .i64 k, .string (bStr s)]
def RetStr (o : Option (Int × List UInt8)) (w : World) (e : Ending) (w' : World) : Prop := e = .returned (.tuple #[txV o, .bool o.isSome]) ∧ Below w.heap.size w w'

theorem RetDe.uni {k : Int} {o : Option (List UInt8)} {w : World} {e : Ending} {w' : World} (h : RetDe k o w e w') : ∃ (kk : Int) (ss : ByteArray) (ec : Int), e = .returned (.tuple #[.agg #[.int .i64 kk, .string ss], .int .i64 ec]) ∧ (ec == 0) = o.isSome ∧ .agg #[.int .i64 kk, .string ss] = txV (o.map (fun s => (k, s))) ∧ Below w.heap.size w w' := by
  obtain ⟨hb, ⟨rfl, ec, hec, he⟩ | ⟨s, rfl, he⟩⟩ := h
  · exact ⟨0, ⟨#[]⟩, ec, he, beq_eq_false_iff_ne.2 hec, rfl, hb⟩
  · exact ⟨k, bStr s, 0, he, rfl, rfl, hb⟩
set_option maxRecDepth 100000 in
set_option maxHeartbeats 4000000 in
theorem string_err (v : Value) (b : List UInt8) (w : World) (hv : IsB w v b) (ec eo : Int) (he : oneE b = .error (ec, eo)) (hec : ec ≠ 0) : Calls Tryz.prog 74 #[v] w (RetStr none w) := by
  have HO : Hid (∀ W, IsB W v b → Calls Tryz.prog 86 #[v] W (RetB (.tuple #[.agg #[.int .i64 0, .int .i64 0, .bool false, .int .i64 0, .int .i64 0, .int .i64 0], .agg #[.int .i64 ec, .int .i64 eo]]) W)) := fun W h => by have := one_any v b W h; rw [he] at this; exact this
  have HV := Lib.hid hv
  obtain ⟨A, c, rfl⟩ := isB_slice hv
  have h0 : (ec != 0) = true := by simp [hec]
  have h0' : (ec == 0) = false := beq_eq_false_iff_ne.2 hec
  clear hv he hec
  go_enter Tryz.func74, Tryz.ntmps74
  go_wp2_with (((go_at_call 86); (with_reducible refine (HO.out _ (HV.out.alloc _)).mono ?_); rintro e w1 ⟨rfl, hbw1⟩; have I0 := Blk.call (Blk.new w 97 #[.int .i64 0, .string ⟨#[]⟩]) hbw1; have q0 := I0.q; have f0 := I0.fz; have l0 := I0.lt))
  refine bodyPost_ret (v := .tuple #[.agg #[.int .i64 0, .string ⟨#[]⟩], .bool false]) (by simp only [results, Tryz.results74]; go_simp) rfl ?_
  have b1 : Below w.heap.size w w1 := ((Below.refl _ w).alloc (Nat.le_refl _) _).trans (hbw1.mono (by simp))
  exact ⟨rfl, by ((repeat' (first | (with_reducible exact Below.refl _ _) | (with_reducible assumption) | (with_reducible refine Below.setCell ?_ ?_ _) | (with_reducible refine Below.alloc ?_ ?_ _) | (with_reducible refine Below.drew ?_) | (with_reducible refine below_drewN ?_ _) | (with_reducible refine Below.step (by with_reducible assumption) ?_ ?_))) <;> (first | omega | (simp; done) | (simp; omega)))⟩

set_option maxRecDepth 100000 in
set_option maxHeartbeats 4000000 in
theorem string_other (v : Value) (b : List UInt8) (w : World) (hv : IsB w v b) (x : Elem) (he : oneE b = .ok x) (hx : x.cls ≠ 0 ∨ x.con = true) : Calls Tryz.prog 74 #[v] w (RetStr none w) := by
  obtain ⟨xc, xn, xk, xs, xb, xe⟩ := x
  have HO : Hid (∀ W, IsB W v b → Calls Tryz.prog 86 #[v] W (RetB (.tuple #[.agg #[.int .i64 xc, .int .i64 xn, .bool xk, .int .i64 xs, .int .i64 xb, .int .i64 xe], .agg #[.int .i64 0, .int .i64 0]]) W)) := fun W h => by have := one_any v b W h; rw [he] at this; exact this
  have HV := Lib.hid hv
  obtain ⟨A, c, rfl⟩ := isB_slice hv
  simp only at hx
  clear hv he
  by_cases hc : xc = 0
  · subst hc
    obtain rfl : xk = true := hx.elim (fun h => absurd rfl h) id
    clear hx
    go_enter Tryz.func74, Tryz.ntmps74
    go_wp2_with (((go_at_call 86); (with_reducible refine (HO.out _ (HV.out.alloc _)).mono ?_); rintro e w1 ⟨rfl, hbw1⟩; have I0 := Blk.call (Blk.new w 97 #[.int .i64 0, .string ⟨#[]⟩]) hbw1; have q0 := I0.q; have f0 := I0.fz; have l0 := I0.lt))
    refine bodyPost_ret (v := .tuple #[.agg #[.int .i64 0, .string ⟨#[]⟩], .bool false]) (by simp only [results, Tryz.results74]; go_simp) rfl ?_
    have b1 : Below w.heap.size w w1 := ((Below.refl _ w).alloc (Nat.le_refl _) _).trans (hbw1.mono (by simp))
    exact ⟨rfl, by ((repeat' (first | (with_reducible exact Below.refl _ _) | (with_reducible assumption) | (with_reducible refine Below.setCell ?_ ?_ _) | (with_reducible refine Below.alloc ?_ ?_ _) | (with_reducible refine Below.drew ?_) | (with_reducible refine below_drewN ?_ _) | (with_reducible refine Below.step (by with_reducible assumption) ?_ ?_))) <;> (first | omega | (simp; done) | (simp; omega)))⟩
  · have h0 : (xc != 0) = true := by simp [hc]
    have h0' : (xc == 0) = false := beq_eq_false_iff_ne.2 hc
    clear hx hc
    go_enter Tryz.func74, Tryz.ntmps74
    go_wp2_with (((go_at_call 86); (with_reducible refine (HO.out _ (HV.out.alloc _)).mono ?_); rintro e w1 ⟨rfl, hbw1⟩; have I0 := Blk.call (Blk.new w 97 #[.int .i64 0, .string ⟨#[]⟩]) hbw1; have q0 := I0.q; have f0 := I0.fz; have l0 := I0.lt))
    refine bodyPost_ret (v := .tuple #[.agg #[.int .i64 0, .string ⟨#[]⟩], .bool false]) (by simp only [results, Tryz.results74]; go_simp) rfl ?_
    have b1 : Below w.heap.size w w1 := ((Below.refl _ w).alloc (Nat.le_refl _) _).trans (hbw1.mono (by simp))
    exact ⟨rfl, by ((repeat' (first | (with_reducible exact Below.refl _ _) | (with_reducible assumption) | (with_reducible refine Below.setCell ?_ ?_ _) | (with_reducible refine Below.alloc ?_ ?_ _) | (with_reducible refine Below.drew ?_) | (with_reducible refine below_drewN ?_ _) | (with_reducible refine Below.step (by with_reducible assumption) ?_ ?_))) <;> (first | omega | (simp; done) | (simp; omega)))⟩

set_option maxRecDepth 100000 in
set_option maxHeartbeats 4000000 in
theorem string_good (v : Value) (b : List UInt8) (w : World) (hG : Glo w) (hv : IsB w v b) (hb : b.length ≤ 1000000) (xn xs xb xe : Int) (he : oneE b = .ok ⟨0, xn, false, xs, xb, xe⟩) (h0 : 0 ≤ xb) (h1 : xb ≤ xe) (h2 : xe ≤ b.length) (hK : (widthK xn).isSome = true → KindOk xn) :
    Calls Tryz.prog 74 #[v] w (RetStr ((decT xn (seg b xb xe)).map (fun s => (xn, s))) w) := by
  have HO : Hid (∀ W, IsB W v b → Calls Tryz.prog 86 #[v] W (RetB (.tuple #[.agg #[.int .i64 0, .int .i64 xn, .bool false, .int .i64 xs, .int .i64 xb, .int .i64 xe], .agg #[.int .i64 0, .int .i64 0]]) W)) := fun W h => by have := one_any v b W h; rw [he] at this; exact this
  obtain ⟨v2, hcut, hv2⟩ := hv.cut (P := Tryz.prog) ulB szB .i64 .i64 h0 h1 h2
  have hsg : (b.drop xb.toNat).take (xe - xb).toNat = seg b xb xe := rfl
  rw [hsg] at hv2
  have hsl : (seg b xb xe).length ≤ 1000000 := by unfold seg; rw [List.length_take, List.length_drop]; omega
  have HD : Hid (∀ W, Glo W → IsB W v2 (seg b xb xe) → Calls Tryz.prog 110 #[.int .i64 xn, v2] W (RetDe xn (decT xn (seg b xb xe)) W)) := fun W hg h => decT_any xn v2 _ W hK hg h hsl
  have HG := Lib.hid hG
  have HV := Lib.hid hv
  have HV2 := Lib.hid hv2
  obtain ⟨A, c, rfl⟩ := isB_slice hv
  clear hG hv he hv2 hsl hK hsg hb
  generalize seg b xb xe = sg at *
  generalize decT xn sg = DO at *
  go_enter Tryz.func74, Tryz.ntmps74
  go_wp2_with (((go_at_call 86); (with_reducible refine (HO.out _ (HV.out.alloc _)).mono ?_); rintro e w1 ⟨rfl, hbw1⟩; have I0 := Blk.call (Blk.new w 97 #[.int .i64 0, .string ⟨#[]⟩]) hbw1; have q0 := I0.q; have f0 := I0.fz; have l0 := I0.lt))
  have HB1 := Lib.hid (((Below.refl _ w).alloc (Nat.le_refl _) (.cells #[.int .i64 0, .string ⟨#[]⟩] 97)).trans (hbw1.mono (by simp)))
  have HI0 := Lib.hid I0
  have HJ := Lib.hid ((Blk.new w1 76 #[.int .i64 0, .int .i64 xn, .bool false, .int .i64 xs, .int .i64 xb, .int .i64 xe]).alloc (.cells #[.int .i64 0, .int .i64 0] 38))
  clear hbw1 I0
  go_region_held3 (fun W' => W'.cell? ⟨w1.heap.size, 1, none⟩ = some (.int .i64 xn) ∧ W'.cell? ⟨w1.heap.size, 4, none⟩ = some (.int .i64 xb) ∧ W'.cell? ⟨w1.heap.size, 5, none⟩ = some (.int .i64 xe))
    (first | go_keep | exact ⟨(Blk.q J2 1).trans rfl, (Blk.q J2 4).trans rfl, (Blk.q J2 5).trans rfl⟩ | exact ⟨(Blk.q (Blk.alloc J2 _) 1).trans rfl, (Blk.q (Blk.alloc J2 _) 4).trans rfl, (Blk.q (Blk.alloc J2 _) 5).trans rfl⟩ | (have J3 := Blk.far (Blk.far J2 (p := ⟨w1.heap.size + 1 + 1, 0, none⟩) (by show w1.heap.size ≠ w1.heap.size + 1 + 1; omega) (.int .i64 kk)) (p := ⟨w1.heap.size + 1 + 1, 1, none⟩) (by show w1.heap.size ≠ w1.heap.size + 1 + 1; omega) (.string ss); exact ⟨(J3.q 1).trans rfl, (J3.q 4).trans rfl, (J3.q 5).trans rfl⟩) | (trace_state; fail))
    (first | ((go_at_call 110); (with_reducible refine (HD.out _ (HG.out.below ((((HB1.out.alloc HB1.out.size _).alloc (by have := HB1.out.size; simp; omega) _)).drew)) (HV2.out.below ((((HB1.out.alloc HB1.out.size _).alloc (by have := HB1.out.size; simp; omega) _)).drew))).mono ?_); rintro e w2 hre; obtain ⟨kk, ss, ec, rfl, hz, htx, hbw2⟩ := RetDe.uni hre; have HTX := Lib.hid htx; clear hre htx; have I2 := Blk.call (Blk.drew (Blk.alloc (Blk.alloc HI0.out _) _)) hbw2; have J2 := Blk.call (Blk.drew HJ.out) hbw2) | ((go_at_call 110); (with_reducible refine (HD.out _ (HG.out.below ((((HB1.out.alloc HB1.out.size _).alloc (by have := HB1.out.size; simp; omega) _).alloc (by have := HB1.out.size; simp; omega) _).drew)) (HV2.out.below ((((HB1.out.alloc HB1.out.size _).alloc (by have := HB1.out.size; simp; omega) _).alloc (by have := HB1.out.size; simp; omega) _).drew))).mono ?_); rintro e w2 hre; obtain ⟨kk, ss, ec, rfl, hz, htx, hbw2⟩ := RetDe.uni hre; have HTX := Lib.hid htx; clear hre htx; have I2 := Blk.call (Blk.drew (Blk.alloc (Blk.alloc (Blk.alloc HI0.out _) _) _)) hbw2; have J2 := Blk.call (Blk.drew (Blk.alloc HJ.out _)) hbw2; have K2 := Blk.call (Blk.drew (Blk.new _ 97 #[.int .i64 0, .string ⟨#[]⟩])) hbw2; have qK := K2.q; have fK := K2.fz; simp at qK fK))
  · have s1 := HB1.out.size
    have s2 := hbw2.size
    simp at s2
    have l2 : w.heap.size < w2.heap.size := by omega
    have qI := I2.q
    have fI := I2.fz
    have b2 : Below w.heap.size w w2 := ((((HB1.out.alloc s1 _).alloc (by simp; omega) _)).drew).trans (hbw2.mono (by simp; omega))
    go_wp2_with fail
    refine bodyPost_ret (v := .tuple #[.agg #[.int .i64 kk, .string ss], .bool DO.isSome]) (by simp only [results, Tryz.results74]; go_simp) rfl ?_
    exact ⟨by rw [HTX.out, Option.isSome_map], by ((repeat' (first | (with_reducible exact Below.refl _ _) | (with_reducible assumption) | (with_reducible refine Below.setCell ?_ ?_ _) | (with_reducible refine Below.alloc ?_ ?_ _) | (with_reducible refine Below.drew ?_) | (with_reducible refine below_drewN ?_ _) | (with_reducible refine Below.step (by with_reducible assumption) ?_ ?_))) <;> (first | omega | (simp; done) | (simp; omega)))⟩
  · have s1 := HB1.out.size
    have s2 := hbw2.size
    simp at s2
    have l2 : w.heap.size < w2.heap.size := by omega
    have qI := I2.q
    have fI := I2.fz
    have b2 : Below w.heap.size w w2 := (((((HB1.out.alloc s1 _).alloc (by simp; omega) _).alloc (by simp; omega) _)).drew).trans (hbw2.mono (by simp; omega))
    go_wp2_with fail
    refine bodyPost_ret (v := .tuple #[.agg #[.int .i64 kk, .string ss], .bool DO.isSome]) (by simp only [results, Tryz.results74]; go_simp) rfl ?_
    exact ⟨by rw [HTX.out, Option.isSome_map], by ((repeat' (first | (with_reducible exact Below.refl _ _) | (with_reducible assumption) | (with_reducible refine Below.setCell ?_ ?_ _) | (with_reducible refine Below.alloc ?_ ?_ _) | (with_reducible refine Below.drew ?_) | (with_reducible refine below_drewN ?_ _) | (with_reducible refine Below.step (by with_reducible assumption) ?_ ?_))) <;> (first | omega | (simp; done) | (simp; omega)))⟩

theorem string_any (v : Value) (b : List UInt8) (w : World) (hG : Glo w) (hv : IsB w v b) (hb : b.length ≤ 1000000) (hK : ∀ x, oneE b = .ok x → (widthK x.num).isSome = true → KindOk x.num) : Calls Tryz.prog 74 #[v] w (RetStr (strD b) w) := by
  unfold strD
  cases he : oneE b with
  | error er =>
    obtain ⟨ec, eo⟩ := er
    exact string_err v b w hv ec eo he (by have := oneE_err he; omega)
  | ok x =>
    simp only
    by_cases hx : x.cls = 0 ∧ x.con = false
    · rw [if_pos hx]
      obtain ⟨xc, xn, xk, xs, xb, xe⟩ := x
      obtain ⟨rfl, rfl⟩ := hx
      have h1 := oneE_ok he
      simp only at h1
      exact string_good v b w hG hv hb xn xs xb xe he (by omega) (by omega) (by omega) (hK _ he)
    · rw [if_neg hx]
      exact string_other v b w hv x he (by
        rcases Classical.em (x.cls = 0) with h | h
        · right
          cases hc : x.con with
          | true => rfl
          | false => exact absurd ⟨h, hc⟩ hx
        · exact .inl h)
end Go.Proofs.YtlmnmgokfnnbbaaGreatDoor
end

/- Walks over attribute.FromString and Directory. -/
section
set_option linter.unusedSimpArgs false
set_option linter.unusedVariables false
namespace Go.Proofs.YtlmnmgokfnnbbaaGreatDoor
open Go.RowKit Go.Cr
def strE (k : Int) (s : List UInt8) : Option (List UInt8) := (encT k s).map fun c => encO 0 false k c
theorem widthK_range {k : Int} (h : (widthK k).isSome = true) : 12 ≤ k ∧ k ≤ 30 := by
  unfold widthK at h
  split at h
  · omega
  split at h
  · omega
  split at h
  · omega
  split at h
  · omega
  · cases h
def dirD (b : List UInt8) : Option (Int × List UInt8) := match strD b with
  | none => none
  | some (k, s) => if s = [] ∨ k = 22 ∨ k = 26 then none else some (k, s)
set_option maxRecDepth 100000 in
set_option maxHeartbeats 4000000 in
theorem otherFn (k : Int) (w : World) : Calls Tryz.prog 138 #[.int .i64 k] w (RetB (.bool (decide (k = 22 ∨ k = 26))) w) := by
  by_cases h1 : k = 22
  · subst h1
    go_enter Tryz.func138, Tryz.ntmps138
    go_wp2_with fail
    go_ret
    exact ⟨by simp, Below.refl _ _⟩
  · have e1 : (k == 22) = false := beq_eq_false_iff_ne.2 h1
    by_cases h2 : k = 26
    · subst h2
      go_enter Tryz.func138, Tryz.ntmps138
      go_wp2_with fail
      go_ret
      exact ⟨by simp, Below.refl _ _⟩
    · have e2 : (k == 26) = false := beq_eq_false_iff_ne.2 h2
      have e3 : decide (k = 22 ∨ k = 26) = false := decide_eq_false (by omega)
      rw [e3]
      clear h1 h2 e3
      go_enter Tryz.func138, Tryz.ntmps138
      go_wp2_with fail
      go_ret
      exact ⟨by simp [e2], Below.refl _ _⟩

set_option maxRecDepth 100000 in
set_option maxHeartbeats 4000000 in
theorem directory_any (v : Value) (b : List UInt8) (w : World) (hG : Glo w) (hv : IsB w v b) (hb : b.length ≤ 1000000) (hK : ∀ x, oneE b = .ok x → (widthK x.num).isSome = true → KindOk x.num) : Calls Tryz.prog 105 #[v] w (RetStr (dirD b) w) := by
  have HS : Hid (∀ W, Glo W → IsB W v b → Calls Tryz.prog 74 #[v] W (RetStr (strD b) W)) := fun W h1 h2 => string_any v b W h1 h2 hb hK
  have HG := Lib.hid hG
  have HV := Lib.hid hv
  have HO : Hid (∀ k W, Calls Tryz.prog 138 #[.int .i64 k] W (RetB (.bool (decide (k = 22 ∨ k = 26))) W)) := fun k W => otherFn k W
  obtain ⟨A, c, rfl⟩ := isB_slice hv
  unfold dirD
  clear hG hv hb hK
  generalize strD b = SD at *
  cases SD with
  | none =>
    have HS' : Hid (∀ W, Glo W → IsB W (.slice A b.length c) b → Calls Tryz.prog 74 #[.slice A b.length c] W (RetB (.tuple #[.agg #[.int .i64 0, .string ⟨#[]⟩], .bool false]) W)) := fun W h1 h2 => HS.out W h1 h2
    clear HS
    go_enter Tryz.func105, Tryz.ntmps105
    go_wp2_with (((go_at_call 74); (with_reducible refine (HS'.out _ (HG.out.alloc _) (HV.out.alloc _)).mono ?_); rintro e w1 ⟨rfl, hbw1⟩; have I0 := Blk.call (Blk.new w 97 #[.int .i64 0, .string ⟨#[]⟩]) hbw1; have q0 := I0.q; have f0 := I0.fz; have l0 := I0.lt))
    refine bodyPost_ret (v := .tuple #[.agg #[.int .i64 0, .string ⟨#[]⟩], .bool false]) (by simp only [results, Tryz.results105]; go_simp) rfl ?_
    have b1 : Below w.heap.size w w1 := ((Below.refl _ w).alloc (Nat.le_refl _) _).trans (hbw1.mono (by simp))
    exact ⟨rfl, by ((repeat' (first | (with_reducible exact Below.refl _ _) | (with_reducible assumption) | (with_reducible refine Below.setCell ?_ ?_ _) | (with_reducible refine Below.alloc ?_ ?_ _) | (with_reducible refine Below.drew ?_) | (with_reducible refine below_drewN ?_ _) | (with_reducible refine Below.step (by with_reducible assumption) ?_ ?_))) <;> (first | omega | (simp; done) | (simp; omega)))⟩
  | some p =>
    obtain ⟨k, s⟩ := p
    have HS' : Hid (∀ W, Glo W → IsB W (.slice A b.length c) b → Calls Tryz.prog 74 #[.slice A b.length c] W (RetB (.tuple #[.agg #[.int .i64 k, .string (bStr s)], .bool true]) W)) := fun W h1 h2 => HS.out W h1 h2
    clear HS
    simp only
    by_cases hs : s = []
    · subst hs
      rw [if_pos (.inl rfl)]
      have he : (bStr []).toList = [] := by rw [ByteArray.toList_eq]; rfl
      go_enter Tryz.func105, Tryz.ntmps105
      go_wp2_with (((go_at_call 74); (with_reducible refine (HS'.out _ (HG.out.alloc _) (HV.out.alloc _)).mono ?_); rintro e w1 ⟨rfl, hbw1⟩; have I0 := Blk.call (Blk.new w 97 #[.int .i64 0, .string ⟨#[]⟩]) hbw1; have q0 := I0.q; have f0 := I0.fz; have l0 := I0.lt))
      refine bodyPost_ret (v := .tuple #[.agg #[.int .i64 0, .string ⟨#[]⟩], .bool false]) (by simp only [results, Tryz.results105]; go_simp) rfl ?_
      have b1 : Below w.heap.size w w1 := ((Below.refl _ w).alloc (Nat.le_refl _) _).trans (hbw1.mono (by simp))
      exact ⟨rfl, by ((repeat' (first | (with_reducible exact Below.refl _ _) | (with_reducible assumption) | (with_reducible refine Below.setCell ?_ ?_ _) | (with_reducible refine Below.alloc ?_ ?_ _) | (with_reducible refine Below.drew ?_) | (with_reducible refine below_drewN ?_ _) | (with_reducible refine Below.step (by with_reducible assumption) ?_ ?_))) <;> (first | omega | (simp; done) | (simp; omega)))⟩
    · have he : ((bStr s).toList == (⟨#[]⟩ : ByteArray).toList) = false := by
        rw [ByteArray.toList_eq, ByteArray.toList_eq]
        exact beq_eq_false_iff_ne.2 (fun h => hs (by simpa [bStr] using h))
      have he2 : (bStr s).toList.isEmpty = false := by
        rw [ByteArray.toList_eq]
        cases s with
        | nil => exact absurd rfl hs
        | cons x t => rfl
      have he3 : ¬ ((bStr s).toList = []) := by
        rw [ByteArray.toList_eq]
        exact fun h => hs (by simpa [bStr] using h)
      by_cases ho : k = 22 ∨ k = 26
      · rw [if_pos (.inr ho)]
        have HO' : Hid (∀ W, Calls Tryz.prog 138 #[.int .i64 k] W (RetB (.bool true) W)) := fun W => by have := HO.out k W; rw [decide_eq_true ho] at this; exact this
        clear ho hs HO
        generalize bStr s = S at *
        go_enter Tryz.func105, Tryz.ntmps105
        go_wp2_with (first | ((go_at_call 74); (with_reducible refine (HS'.out _ (HG.out.alloc _) (HV.out.alloc _)).mono ?_); rintro e w1 ⟨rfl, hbw1⟩; have I0 := Blk.call (Blk.new w 97 #[.int .i64 0, .string ⟨#[]⟩]) hbw1; have q0 := I0.q; have f0 := I0.fz; have l0 := I0.lt; have HI0 := Lib.hid I0; clear I0) | ((go_at_call 138); (with_reducible refine (HO'.out _).mono ?_); rintro e w2 ⟨rfl, hbw2⟩; have I2 := Blk.call (HI0.out.alloc _) hbw2; have q2 := I2.q; have f2 := I2.fz; have l2 := I2.lt))
        refine bodyPost_ret (v := .tuple #[.agg #[.int .i64 0, .string ⟨#[]⟩], .bool false]) (by simp only [results, Tryz.results105]; go_simp) rfl ?_
        have b1 : Below w.heap.size w w1 := ((Below.refl _ w).alloc (Nat.le_refl _) _).trans (hbw1.mono (by simp))
        have b2 : Below w.heap.size w w2 := (b1.alloc b1.size _).trans (hbw2.mono (by have := b1.size; simp; omega))
        exact ⟨rfl, by ((repeat' (first | (with_reducible exact Below.refl _ _) | (with_reducible assumption) | (with_reducible refine Below.setCell ?_ ?_ _) | (with_reducible refine Below.alloc ?_ ?_ _) | (with_reducible refine Below.drew ?_) | (with_reducible refine below_drewN ?_ _) | (with_reducible refine Below.step (by with_reducible assumption) ?_ ?_))) <;> (first | omega | (simp; done) | (simp; omega)))⟩
      · rw [if_neg (fun h => h.elim hs ho)]
        have HO' : Hid (∀ W, Calls Tryz.prog 138 #[.int .i64 k] W (RetB (.bool false) W)) := fun W => by have := HO.out k W; rw [decide_eq_false ho] at this; exact this
        clear ho hs HO
        generalize hS : bStr s = S at *
        have HSS := Lib.hid hS
        clear hS
        go_enter Tryz.func105, Tryz.ntmps105
        go_wp2_with (first | ((go_at_call 74); (with_reducible refine (HS'.out _ (HG.out.alloc _) (HV.out.alloc _)).mono ?_); rintro e w1 ⟨rfl, hbw1⟩; have I0 := Blk.call (Blk.new w 97 #[.int .i64 0, .string ⟨#[]⟩]) hbw1; have q0 := I0.q; have f0 := I0.fz; have l0 := I0.lt; have HI0 := Lib.hid I0; clear I0) | ((go_at_call 138); (with_reducible refine (HO'.out _).mono ?_); rintro e w2 ⟨rfl, hbw2⟩; have I2 := Blk.call (HI0.out.alloc _) hbw2; have q2 := I2.q; have f2 := I2.fz; have l2 := I2.lt; have J2 := Blk.call (Blk.new w1 97 #[.int .i64 k, .string S]) hbw2; have p2 := J2.q))
        refine bodyPost_ret (v := .tuple #[.agg #[.int .i64 k, .string S], .bool true]) (by simp only [results, Tryz.results105]; go_simp) rfl ?_
        have b1 : Below w.heap.size w w1 := ((Below.refl _ w).alloc (Nat.le_refl _) _).trans (hbw1.mono (by simp))
        have b2 : Below w.heap.size w w2 := (b1.alloc b1.size _).trans (hbw2.mono (by have := b1.size; simp; omega))
        exact ⟨by rw [← HSS.out]; rfl, by ((repeat' (first | (with_reducible exact Below.refl _ _) | (with_reducible assumption) | (with_reducible refine Below.setCell ?_ ?_ _) | (with_reducible refine Below.alloc ?_ ?_ _) | (with_reducible refine Below.drew ?_) | (with_reducible refine below_drewN ?_ _) | (with_reducible refine Below.step (by with_reducible assumption) ?_ ?_))) <;> (first | omega | (simp; done) | (simp; omega)))⟩
end Go.Proofs.YtlmnmgokfnnbbaaGreatDoor
end
