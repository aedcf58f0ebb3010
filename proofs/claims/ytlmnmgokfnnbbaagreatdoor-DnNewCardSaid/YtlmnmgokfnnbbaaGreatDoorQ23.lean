/- The parts Print of one proof, one behind the other. -/
import Derived.Test.YtlmnmgokfnnbbaaGreatDoorQ21
import Derived.Test.YtlmnmgokfnnbbaaGreatDoorQ22
import Derived.LoopTactic
import Derived.Deep.QuietTactic
import Derived.BigQuiet

/- The characters of PrintableString: strings.ContainsRune at a string of ASCII bytes, for any code point. -/
section
set_option linter.unusedSimpArgs false
set_option linter.unusedVariables false
namespace Go.Cr
open Go.Lib
theorem indexByte_absent : ∀ {l : List UInt8} {c : UInt8}, c ∉ l → indexByte l c = -1 := by
  intro l
  induction l with
  | nil => intro c _; rfl
  | cons b t ih =>
    intro c h
    simp only [List.mem_cons, not_or] at h
    have hb : (b == c) = false := beq_eq_false_iff_ne.2 (fun e => h.1 e.symm)
    simp only [indexByte, hb, ih h.2]
    rfl
theorem indexByte_mem : ∀ {l : List UInt8} {c : UInt8}, (0 ≤ indexByte l c) ↔ c ∈ l := by
  intro l c
  rcases Classical.em (c ∈ l) with h | h
  · refine ⟨fun _ => h, fun _ => ?_⟩
    have := indexByte_ge l c
    rcases Classical.em (indexByte l c = -1) with e | e
    · exfalso
      obtain ⟨k, hk⟩ := List.getElem?_of_mem h
      exact indexByte_none e k hk
    · omega
  · rw [indexByte_absent h]
    exact ⟨fun h' => by omega, fun h' => absurd h' h⟩
end Go.Cr
namespace Go.Proofs.YtlmnmgokfnnbbaaGreatDoor
open Go.RowKit Go.Cr
theorem ulStr0 : Tryz.prog.underlying 9 = some .string := by kernel_rfl
def Asc (s : ByteArray) : Prop := s.size ≤ 1000 ∧ ∀ (i : Nat) (h : i < s.size), (s[i]'h).toNat < 128

def AiRel (s : ByteArray) (r : Nat) (w : World) (wr : World) : Prop := ∃ pos : Nat, pos ≤ s.size ∧ wr.heap[r]? = some (.stringIter s pos) ∧ Below w.heap.size w wr
set_option maxRecDepth 100000 in
set_option maxHeartbeats 4000000 in
theorem index_err (s : ByteArray) (w : World) (hs : Asc s) : Calls Tryz.prog 213 #[.string s, .int .i32 65533] w (RetB (.int .i64 (-1)) w) := by
  obtain ⟨hs1, hs2⟩ := hs
  have HA := Lib.hid hs2
  clear hs2
  go_enter Tryz.func213, Tryz.ntmps213
  go_wp2_with fail
  go_loopw [] (fun wr => AiRel s w.heap.size w wr) (fun wr => s.size - wr.iterPos w.heap.size)
  case atStart =>
    refine ⟨0, Nat.zero_le _, ?_, (Below.refl _ _).alloc (Nat.le_refl _) _⟩
    have := World.iter_heap w s 0
    simpa using this
  case round =>
    obtain ⟨pos, hle, hit, hbel⟩ := hrel
    have hsz : w.heap.size < wr.heap.size := (Array.getElem?_eq_some_iff.1 hit).1
    by_cases hp : pos < s.size
    · have hlt := HA.out pos hp
      have hnx : ∀ ty, (Instr.next (.pointer (some ⟨w.heap.size, 0, none⟩)) true ty).run Tryz.prog wr = _ := fun ty => Lib.run_next_ascii_at wr w.heap.size s pos ty hit hp hlt
      have hit2 := Lib.iterAt_heap wr w.heap.size s pos (pos + 1) hit
      have hbel2 := Lib.below_iterAt hbel (k := w.heap.size) (Nat.le_refl _) s (pos + 1)
      have HIT := Lib.hid hit2
      have HIT0 := Lib.hid hit
      have HBL := Lib.hid hbel2
      have hb : (((s[pos]'hp).toNat : Nat) : Int) < 128 := by omega
      clear hlt hit2 hbel2 hit hbel
      generalize (s[pos]'hp).toNat = b at *
      have he : ((b : Int) == 65533) = false := beq_eq_false_iff_ne.2 (by omega)
      have hiw : IntKind.i32.wrap (b : Int) = b := by rw [IntKind.wrap_i32]; omega
      generalize wr.iterAt w.heap.size s (pos + 1) = wi at *
      go_wp2_with fail
      go_roundw
      case rel => exact ⟨pos + 1, by omega, HIT.out, HBL.out⟩
      case measure =>
        simp only [World.iterPos, HIT.out, HIT0.out]
        omega
    · have hnx : ∀ ty, (Instr.next (.pointer (some ⟨w.heap.size, 0, none⟩)) true ty).run Tryz.prog wr = _ := fun ty => Lib.run_next_end_at wr w.heap.size s pos ty hit hp
      have HBL := Lib.hid hbel
      clear hbel hit hp
      go_wp2_with fail
      go_ret
      exact ⟨rfl, HBL.out⟩
set_option maxRecDepth 100000 in
set_option maxHeartbeats 4000000 in
theorem index_bad (s : ByteArray) (c : Int) (w : World) (h128 : 128 ≤ c) (hne : c ≠ 65533) (hv : okc c = false) : Calls Tryz.prog 213 #[.string s, .int .i32 c] w (RetB (.int .i64 (-1)) w) := by
  have HV : Hid (∀ W, Calls Tryz.prog 188 #[.int .i32 c] W (RetB (.bool false) W)) := fun W => (Tryz.utf8_ValidRune c W).mono fun e w' ⟨he, hw⟩ => by subst hw; rw [he, validRune_okc, hv]; exact ⟨rfl, Below.refl _ _⟩
  have e1 : (c == 65533) = false := beq_eq_false_iff_ne.2 hne
  clear hne hv
  go_enter Tryz.func213, Tryz.ntmps213
  go_wp2_with (((go_at_call 188); (with_reducible refine (HV.out _).mono ?_); rintro e w1 ⟨rfl, hbw1⟩))
  go_ret
  exact ⟨rfl, hbw1⟩
set_option maxRecDepth 100000 in
set_option maxHeartbeats 4000000 in
theorem index_far (s : ByteArray) (c : Int) (w : World) (hs : Asc s) (h128 : 128 ≤ c) (hne : c ≠ 65533) (hv : okc c = true) : Calls Tryz.prog 213 #[.string s, .int .i32 c] w (RetB (.int .i64 (-1)) w) := by
  have HV : Hid (∀ W, Calls Tryz.prog 188 #[.int .i32 c] W (RetB (.bool true) W)) := fun W => (Tryz.utf8_ValidRune c W).mono fun e w' ⟨he, hw⟩ => by subst hw; rw [he, validRune_okc, hv]; exact ⟨rfl, Below.refl _ _⟩
  have e1 : (c == 65533) = false := beq_eq_false_iff_ne.2 hne
  have hvv : Utf8.valid c = true := by
    have := okc_iff.1 hv
    unfold Utf8.valid
    simp
    omega
  obtain ⟨h2, h4, hlast⟩ := encode_facts c hvv h128
  clear hne hv hvv
  obtain ⟨S, hS⟩ : ∃ S, Utf8.encode c = S := ⟨_, rfl⟩
  rw [hS] at h2 h4 hlast
  obtain ⟨m, hm⟩ : ∃ m, S.size = m + 1 := ⟨S.size - 1, by omega⟩
  obtain ⟨hs1, hs2⟩ := hs
  have hsr : Tryz.prog.underlying 9 = some .string := ulStr0
  have hcv := fun W : World => run_convert_int_string (P := Tryz.prog) W 21 9 .i32 c (by kernel_rfl) hsr
  rw [hS] at hcv
  have hmlt : m < S.size := by omega
  have hxl := hlast (by omega)
  obtain ⟨x, hx⟩ : ∃ x : UInt8, S[m]'hmlt = x := ⟨_, rfl⟩
  have hx1 : 128 ≤ x.toNat := by
    have : S[S.size - 1]'(by omega) = S[m]'hmlt := by congr 1; omega
    rw [this, hx] at hxl
    exact hxl
  have hSm : (((S[m]'hmlt).toNat : Nat) : Int) = (x.toNat : Int) := by rw [hx]
  have hmI : (S.size : Int) = (m : Int) + 1 := by omega
  have hm3 : (m : Int) ≤ 3 := by omega
  have hm1 : (1 : Int) ≤ m := by omega
  clear hlast hxl
  by_cases hin : m < s.size
  · have hq := hs2 m hin
    obtain ⟨p, hp1, hp2⟩ : ∃ p : ByteArray, (∀ W, (Instr.slice 9 (.string s) (some (.int .i64 ((m : Int) + 1))) none none).run Tryz.prog W = .ok (.string p) W) ∧ x ∉ p.data.toList := by
      refine ⟨s.extract (m + 1) s.size, fun W => ?_, fun hm2 => ?_⟩
      · rw [run_slice_string_l W 9 s ulStr0 .i64 _ (by omega) (by omega)]
        rw [show ((m : Int) + 1).toNat = m + 1 by omega]
      · rw [Lib.extract_data] at hm2
        have hm3 := List.mem_of_mem_drop (List.mem_of_mem_take hm2)
        obtain ⟨j, hj, he⟩ := List.getElem_of_mem hm3
        have := hs2 j (by simpa using hj)
        rw [show s[j]'(by simpa using hj) = x from he] at this
        omega
    have HI : Hid (∀ W, Calls Tryz.prog 75 #[.string p, .int .u8 (x.toNat : Int)] W fun e w' => e = .returned (.int .i64 (-1)) ∧ w' = W) := fun W => (Tryz.strings_IndexByte p (x.toNat : Int) W).mono fun e w' ⟨he, hw⟩ => by
      rw [show ((x.toNat : Int)).toNat.toUInt8 = x by simp, indexByte_absent hp2] at he
      exact ⟨he, hw⟩
    obtain ⟨y, hy⟩ : ∃ y : Nat, (s[m]'hin).toNat = y := ⟨_, rfl⟩
    have hyI : (((s[m]'hin).toNat : Nat) : Int) = (y : Int) := by rw [hy]
    have hne2 : (y : Int) ≠ (x.toNat : Int) := by omega
    have hx0 : (0 : Int) ≤ (x.toNat : Int) := by omega
    have hinI : (m : Int) < s.size := by omega
    have hmS : (m : Int) < S.size := by omega
    have hsI : (s.size : Int) ≤ 1000 := by omega
    have hw1 : IntKind.i64.wrap ((m : Int) + 1) = (m : Int) + 1 := by rw [IntKind.wrap_i64]; omega
    clear hq hp2 hS hx hx1 hm hs1 hs2 h2 h4 hy
    generalize x.toNat = xn at *
    have hneb : ((y : Int) != (xn : Int)) = true := by simp; omega
    have hneb2 : ((y : Int) == (xn : Int)) = false := beq_eq_false_iff_ne.2 hne2
    go_enter Tryz.func213, Tryz.ntmps213
    go_wp2_with (((go_at_call 188); (with_reducible refine (HV.out _).mono ?_); rintro e w1 ⟨rfl, hbw1⟩))
    go_step3
    go_wp2_with fail
    go_loopw [9, 10] (fun i fl wr => i = .int .i64 (m : Int) ∧ fl = .int .i64 0 ∧ wr = w1) (fun _ _ _ => 0)
    case atStart => exact ⟨rfl, rfl, rfl⟩
    case round =>
      obtain ⟨rfl, rfl, rfl⟩ := hrel
      go_wp2_with fail
      go_step3
      go_wp2_with fail
      go_quiet (fail)
      have hbq := below_drewN hbw1 nq
      have HBQ := Lib.hid hbq
      clear hbq
      generalize wr.drewN nq = wq at *
      go_wp2_with fail
      go_quiet (first | (go_at_call 75; exact Calls.quiet_of_same (HI.out _)))
      go_wp2_with fail
      rw [Exit.noGoto_ret]
      go_ret
      exact ⟨rfl, by have := below_drewN HBQ.out nq; ((repeat' (first | (with_reducible exact Below.refl _ _) | (with_reducible assumption) | (with_reducible refine Below.setCell ?_ ?_ _) | (with_reducible refine Below.alloc ?_ ?_ _) | (with_reducible refine Below.drew ?_) | (with_reducible refine below_drewN ?_ _) | (with_reducible refine Below.step (by with_reducible assumption) ?_ ?_))) <;> (first | omega | (simp; done) | (simp; omega)))⟩
  · have hge : (s.size : Int) ≤ m := by omega
    clear hS hx hx1 hm hs1 hs2 h2 h4 hin
    generalize x.toNat = xn at *
    go_enter Tryz.func213, Tryz.ntmps213
    go_wp2_with (((go_at_call 188); (with_reducible refine (HV.out _).mono ?_); rintro e w1 ⟨rfl, hbw1⟩))
    go_step3
    go_wp2_with fail
    go_loopw [9, 10] (fun i fl wr => i = .int .i64 (m : Int) ∧ fl = .int .i64 0 ∧ wr = w1) (fun _ _ _ => 0)
    case atStart => exact ⟨rfl, rfl, rfl⟩
    case round =>
      obtain ⟨rfl, rfl, rfl⟩ := hrel
      go_wp2_with fail
      rw [Exit.noGoto_ret]
      go_ret
      exact ⟨rfl, by have := hbw1; ((repeat' (first | (with_reducible exact Below.refl _ _) | (with_reducible assumption) | (with_reducible refine Below.setCell ?_ ?_ _) | (with_reducible refine Below.alloc ?_ ?_ _) | (with_reducible refine Below.drew ?_) | (with_reducible refine below_drewN ?_ _) | (with_reducible refine Below.step (by with_reducible assumption) ?_ ?_))) <;> (first | omega | (simp; done) | (simp; omega)))⟩

theorem asc_others : Asc ⟨#[32, 39, 40, 41, 43, 44, 45, 46, 47, 58, 61, 63]⟩ := ⟨by decide, by decide⟩
theorem index_hi (s : ByteArray) (c : Int) (w : World) (hs : Asc s) (h128 : 128 ≤ c) : Calls Tryz.prog 213 #[.string s, .int .i32 c] w (RetB (.int .i64 (-1)) w) := by
  by_cases hne : c = 65533
  · subst hne; exact index_err s w hs
  · cases hv : okc c with
    | true => exact index_far s c w hs h128 hne hv
    | false => exact index_bad s c w h128 hne hv
set_option maxRecDepth 100000 in
set_option maxHeartbeats 4000000 in
theorem contains_hi (s : ByteArray) (c : Int) (w : World) (hs : Asc s) (h128 : 128 ≤ c) : Calls Tryz.prog 185 #[.string s, .int .i32 c] w (RetB (.bool false) w) := by
  have HI : Hid (∀ W, Calls Tryz.prog 213 #[.string s, .int .i32 c] W (RetB (.int .i64 (-1)) W)) := fun W => index_hi s c W hs h128
  clear hs
  go_enter Tryz.func185, Tryz.ntmps185
  go_wp2_with (((go_at_call 213); (with_reducible refine (HI.out _).mono ?_); rintro e w1 ⟨rfl, hbw1⟩))
  go_ret
  exact ⟨rfl, hbw1⟩
theorem u8_int {c : Int} (h0 : 0 ≤ c) (h1 : c < 128) (l : List UInt8) (hl : ∀ x ∈ l, x.toNat < 128) : (c.toNat.toUInt8 ∈ l) ↔ (l.map bi).contains c = true := by
  rw [List.contains_eq_mem, decide_eq_true_eq, List.mem_map]
  have hc : c.toNat.toUInt8.toNat = c.toNat := by simp; omega
  refine ⟨fun h => ⟨_, h, by unfold bi; rw [hc]; omega⟩, fun ⟨x, hx, he⟩ => ?_⟩
  have : x = c.toNat.toUInt8 := by
    apply UInt8.toNat_inj.1
    rw [hc]
    unfold bi at he
    omega
  rwa [← this]
theorem contains_any (c : Int) (w : World) (h0 : 0 ≤ c) : Calls Tryz.prog 185 #[.string ⟨#[32, 39, 40, 41, 43, 44, 45, 46, 47, 58, 61, 63]⟩, .int .i32 c] w (RetB (.bool ([32, 39, 40, 41, 43, 44, 45, 46, 47, 58, 61, 63].contains c)) w) := by
  by_cases h1 : c < 128
  · refine (Tryz.strings_ContainsRune_ascii _ c w h0 h1).mono fun e w' ⟨he, hw⟩ => ?_
    subst hw
    refine ⟨?_, Below.refl _ _⟩
    rw [he]
    congr 2
    rw [Bool.eq_iff_iff, decide_eq_true_eq, indexByte_mem, u8_int h0 h1 _ (by decide)]
    rfl
  · have : [32, 39, 40, 41, 43, 44, 45, 46, 47, 58, 61, 63].contains c = false := by
      rw [List.contains_eq_mem, decide_eq_false_iff_not]
      simp
      omega
    rw [this]
    exact contains_hi _ c w asc_others (by omega)
set_option maxRecDepth 100000 in
set_option maxHeartbeats 4000000 in
theorem printFn (c : Int) (w : World) (h0 : 0 ≤ c) (h1 : c ≤ 1114111) : Calls Tryz.prog 184 #[.int .i32 c] w (RetB (.bool (printC c)) w) := by
  have HC : Hid (∀ W, Calls Tryz.prog 185 #[.string ⟨#[32, 39, 40, 41, 43, 44, 45, 46, 47, 58, 61, 63]⟩, .int .i32 c] W (RetB (.bool ([32, 39, 40, 41, 43, 44, 45, 46, 47, 58, 61, 63].contains c)) W)) := fun W => contains_any c W h0
  have HP : Hid (printC c = (((decide (97 ≤ c) && decide (c ≤ 122)) || (decide (65 ≤ c) && decide (c ≤ 90)) || (decide (48 ≤ c) && decide (c ≤ 57))) || [32, 39, 40, 41, 43, 44, 45, 46, 47, 58, 61, 63].contains c)) := rfl
  generalize [32, 39, 40, 41, 43, 44, 45, 46, 47, 58, 61, 63].contains c = B at *
  by_cases hin : (97 ≤ c ∧ c ≤ 122) ∨ (65 ≤ c ∧ c ≤ 90) ∨ (48 ≤ c ∧ c ≤ 57)
  · have hv : printC c = true := by rw [HP.out]; simp; omega
    rw [hv]
    clear hv HP
    rcases hin with ⟨k1, k2⟩ | ⟨k1, k2⟩ | ⟨k1, k2⟩
    · go_enter Tryz.func184, Tryz.ntmps184
      go_wp2_with fail
      go_ret
      exact ⟨rfl, Below.refl _ _⟩
    · have k3 : c < 97 := by omega
      go_enter Tryz.func184, Tryz.ntmps184
      go_wp2_with fail
      go_ret
      exact ⟨rfl, Below.refl _ _⟩
    · have k3 : c < 97 := by omega
      have k4 : c < 65 := by omega
      go_enter Tryz.func184, Tryz.ntmps184
      go_wp2_with fail
      go_ret
      exact ⟨rfl, Below.refl _ _⟩
  · have hv : printC c = B := by
      rw [HP.out]
      have : ((decide (97 ≤ c) && decide (c ≤ 122)) || (decide (65 ≤ c) && decide (c ≤ 90)) || (decide (48 ≤ c) && decide (c ≤ 57))) = false := by
        rw [Bool.eq_false_iff]
        intro h
        simp only [Bool.or_eq_true, Bool.and_eq_true, decide_eq_true_eq] at h
        omega
      rw [this, Bool.false_or]
    rw [hv]
    clear hv HP
    rcases (show c < 48 ∨ (57 < c ∧ c < 65) ∨ (90 < c ∧ c < 97) ∨ 122 < c by omega) with k1 | ⟨k1, k2⟩ | ⟨k1, k2⟩ | k1
    all_goals
      (try have d1 : decide (c ≤ 57) = false := decide_eq_false (by omega))
      (try have d2 : decide (c ≤ 90) = false := decide_eq_false (by omega))
      (try have d3 : decide (c ≤ 122) = false := decide_eq_false (by omega))
      clear hin
      cases B
      all_goals
        go_enter Tryz.func184, Tryz.ntmps184
        go_wp2_with (((go_at_call 185); (with_reducible refine (HC.out _).mono ?_); rintro e w1 ⟨rfl, hbw1⟩))
        go_ret
        exact ⟨rfl, hbw1⟩
theorem kindOk_19 : KindOk 19 := fun B w gb f26 f22 _ _ _ _ f n h => by
  simp only [kindF] at h
  simp at h
  obtain ⟨rfl, rfl⟩ := h
  exact ⟨_, _, rfl, enters_of Tryz.func184 (by kernel_rfl) rfl, fun W x _ h0 h1 => printFn x W h0 h1⟩
theorem kindOk_all (k : Int) : (widthK k).isSome = true → KindOk k := by
  intro h
  unfold widthK at h
  split at h
  · rename_i e; rw [e]; exact kindOk_12
  split at h
  · rename_i e
    rcases e with e | e | e | e <;> rw [e]
    · exact kindOk_19
    · exact kindOk_20
    · exact kindOk_22
    · exact kindOk_26
  split at h
  · rename_i e; rw [e]; exact kindOk_28
  split at h
  · rename_i e; rw [e]; exact kindOk_30
  · cases h
end Go.Proofs.YtlmnmgokfnnbbaaGreatDoor
end
