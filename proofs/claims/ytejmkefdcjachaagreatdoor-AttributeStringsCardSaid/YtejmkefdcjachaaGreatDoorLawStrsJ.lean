/- AttributeStrings: any bytes are the character string, and the directory string, of the reference implementation, or none; it has these bytes as its element. No condition beyond the row's own. -/
import Derived.Test.YtejmkefdcjachaaGreatDoorJ41
import Derived.Test.YtejmkefdcjachaaGreatDoorJ38
import Derived.Test.YtejmkefdcjachaaGreatDoorJ51
import Derived.Test.YtejmkefdcjachaaGreatDoorJ53
import Derived.Test.YtejmkefdcjachaaGreatDoorJ36
import Derived.Test.YtejmkefdcjachaaGreatDoorTie
import Derived.Test.YtejmkefdcjachaaGreatDoorCards
import Derived.SevenTiedAt
import Derived.JoinedCond
set_option linter.unusedSimpArgs false
set_option linter.unusedVariables false
namespace Go.Proofs.YtejmkefdcjachaaGreatDoor.StrsDone
open Go.RowKit Go.Cr Go.ChangeShapes Go.WideShapes Go.ChangeAt Go.Lib

theorem strE_of {b : List UInt8} (hl : b.length ≤ 1000000) {k : Int} {s : List UInt8} (h : strD b = some (k, s)) : strE k s = some b := by
  rw [← rstr_eq hl] at h
  unfold rstr at h
  split at h
  · rename_i he
    rw [h] at he
    exact he
  · cases h
/-- What the four calls yield: a value and a flag. -/
def RS (k : Int) (S : ByteArray) (t : Bool) (w : World) (e : Ending) (w' : World) : Prop := RetB (.tuple #[.agg #[.int .i64 k, .string S], .bool t]) w e w'

set_option maxRecDepth 100000 in
set_option maxHeartbeats 4000000 in
theorem no_ (v : Value) (b : List UInt8) (w : World) (hv : IsB w v b) (hG : Glo w) (hl : b.length ≤ 3000)
    (h1 : ∀ W, Glo W → IsB W v b → Calls Tryz.prog 12 #[v] W (RS 0 ⟨#[]⟩ false W)) (h2 : ∀ W, IsB W v b → Calls Tryz.prog 13 #[v] W (RS 0 ⟨#[]⟩ false W))
    (h3 : ∀ W, Glo W → IsB W v b → Calls Tryz.prog 14 #[v] W (RS 0 ⟨#[]⟩ false W)) (h4 : ∀ W, IsB W v b → Calls Tryz.prog 15 #[v] W (RS 0 ⟨#[]⟩ false W)) :
    Calls Tryz.prog 3 #[v] w (RetB (.bool true) w) := by
  have hlen := hv.len (P := Tryz.prog) ulB
  have HA : Hid (∀ W, Glo W → Calls Tryz.prog 11 #[] W (RetB (.bool true) W)) := awake_any
  have H1 := Lib.hid h1
  have H2 := Lib.hid h2
  have H3 := Lib.hid h3
  have H4 := Lib.hid h4
  have he0 := str_eq ⟨#[]⟩
  have HG := Lib.hid hG
  have HV := Lib.hid hv
  obtain ⟨A, c, rfl⟩ := isB_slice hv
  have hl' : (b.length : Int) ≤ 3000 := by omega
  clear hv hG hl h1 h2 h3 h4
  go_enter Tryz.func3, Tryz.ntmps3
  go_wp2_with (first | ((go_at_call 11); (with_reducible refine (HA.out _ HG.out).mono ?_); rintro e w1 ⟨rfl, hbw1⟩; have HG1 := Lib.hid (HG.out.below hbw1); have HV1 := Lib.hid (HV.out.below hbw1)) | ((go_at_call 12); (with_reducible refine (H1.out _ HG1.out HV1.out).mono ?_); rintro e w2 ⟨rfl, hbw2⟩; have HG2 := Lib.hid ((HG1.out.below hbw2).alloc (.cells #[.int .i64 0, .string ⟨#[]⟩] 25)); have HV2 := Lib.hid ((HV1.out.below hbw2).alloc (.cells #[.int .i64 0, .string ⟨#[]⟩] 25)); have T2 := Blk.new w2 25 #[.int .i64 0, .string ⟨#[]⟩]; have HT2 := Lib.hid T2; clear T2) | ((go_at_call 13); (with_reducible refine (H2.out _ HV2.out).mono ?_); rintro e w3 ⟨rfl, hbw3⟩; have HG3 := Lib.hid ((HG2.out.below hbw3).alloc (.cells #[.int .i64 0, .string ⟨#[]⟩] 25)); have HV3 := Lib.hid ((HV2.out.below hbw3).alloc (.cells #[.int .i64 0, .string ⟨#[]⟩] 25)); have HT3 := Lib.hid ((Blk.call HT2.out hbw3).alloc (.cells #[.int .i64 0, .string ⟨#[]⟩] 25)); have HU3 := Lib.hid (Blk.new w3 25 #[.int .i64 0, .string ⟨#[]⟩])) | ((go_at_call 14); (with_reducible refine (H3.out _ HG3.out HV3.out).mono ?_); rintro e w4 ⟨rfl, hbw4⟩; have HG4 := Lib.hid ((HG3.out.below hbw4).alloc (.cells #[.int .i64 0, .string ⟨#[]⟩] 25)); have HV4 := Lib.hid ((HV3.out.below hbw4).alloc (.cells #[.int .i64 0, .string ⟨#[]⟩] 25)); have HT4 := Lib.hid ((Blk.call HT3.out hbw4).alloc (.cells #[.int .i64 0, .string ⟨#[]⟩] 25)); have HU4 := Lib.hid ((Blk.call HU3.out hbw4).alloc (.cells #[.int .i64 0, .string ⟨#[]⟩] 25)); have HX4 := Lib.hid (Blk.new w4 25 #[.int .i64 0, .string ⟨#[]⟩])) | ((go_at_call 15); (with_reducible refine (H4.out _ HV4.out).mono ?_); rintro e w5 ⟨rfl, hbw5⟩; have HG5 := Lib.hid ((HG4.out.below hbw5).alloc (.cells #[.int .i64 0, .string ⟨#[]⟩] 25)); have HV5 := Lib.hid ((HV4.out.below hbw5).alloc (.cells #[.int .i64 0, .string ⟨#[]⟩] 25)); have T5 := Blk.call HT4.out hbw5; have U5 := Blk.call HU4.out hbw5; have X5 := Blk.call HX4.out hbw5; have qT := T5.q; have qU := U5.q; have qX := X5.q; have lT := T5.lt; have lU := U5.lt; have lX := X5.lt))
  go_ret
  have s1 := hbw1.size
  have s2 := hbw2.size
  have s3 := hbw3.size
  have s4 := hbw4.size
  have s5 := hbw5.size
  simp at s1 s2 s3 s4 s5
  have c2 : Below w.heap.size w w2 := hbw1.trans (hbw2.mono (by omega))
  have c3 : Below w.heap.size w w3 := (c2.alloc (by omega) _).trans (hbw3.mono (by simp; omega))
  have c4 : Below w.heap.size w w4 := (c3.alloc (by omega) _).trans (hbw4.mono (by simp; omega))
  have c5 : Below w.heap.size w w5 := (c4.alloc (by omega) _).trans (hbw5.mono (by simp; omega))
  have c6 := c5.alloc (by omega) (.cells #[.int .i64 0, .string ⟨#[]⟩] 25)
  exact ⟨by (first | rfl | simp [*]), c6⟩

set_option maxRecDepth 100000 in
set_option maxHeartbeats 4000000 in
theorem yn_ (v : Value) (b : List UInt8) (w : World) (hv : IsB w v b) (hG : Glo w) (hl : b.length ≤ 3000) (k : Int) (S : ByteArray)
    (h1 : ∀ W, Glo W → IsB W v b → Calls Tryz.prog 12 #[v] W (RS k S true W)) (h2 : ∀ W, IsB W v b → Calls Tryz.prog 13 #[v] W (RS k S true W))
    (h3 : ∀ W, Glo W → IsB W v b → Calls Tryz.prog 14 #[v] W (RS 0 ⟨#[]⟩ false W)) (h4 : ∀ W, IsB W v b → Calls Tryz.prog 15 #[v] W (RS 0 ⟨#[]⟩ false W))
    (h5 : ∀ W, Glo W → Calls Tryz.prog 16 #[.agg #[.int .i64 k, .string S]] W (RetOidY b W)) :
    Calls Tryz.prog 3 #[v] w (RetB (.bool true) w) := by
  have hlen := hv.len (P := Tryz.prog) ulB
  have HA : Hid (∀ W, Glo W → Calls Tryz.prog 11 #[] W (RetB (.bool true) W)) := awake_any
  have H1 := Lib.hid h1
  have H2 := Lib.hid h2
  have H3 := Lib.hid h3
  have H4 := Lib.hid h4
  have H5 := Lib.hid h5
  have H6 : Hid (∀ W u x, IsB W u b → IsB W x b → Calls Tryz.prog 17 #[u, x] W (RetB (.bool true) W)) := fun W u x g1 g2 => by have := bytes_any u x b b W g1 g2; rwa [decide_eq_true rfl] at this
  have hss := str_eq S
  have he0 := str_eq ⟨#[]⟩
  have HG := Lib.hid hG
  have HV := Lib.hid hv
  obtain ⟨A, c, rfl⟩ := isB_slice hv
  have hl' : (b.length : Int) ≤ 3000 := by omega
  clear hv hG hl h1 h2 h3 h4 h5
  go_enter Tryz.func3, Tryz.ntmps3
  go_wp2_with (first | ((go_at_call 11); (with_reducible refine (HA.out _ HG.out).mono ?_); rintro e w1 ⟨rfl, hbw1⟩; have HG1 := Lib.hid (HG.out.below hbw1); have HV1 := Lib.hid (HV.out.below hbw1)) | ((go_at_call 12); (with_reducible refine (H1.out _ HG1.out HV1.out).mono ?_); rintro e w2 ⟨rfl, hbw2⟩; have HG2 := Lib.hid ((HG1.out.below hbw2).alloc (.cells #[.int .i64 k, .string S] 25)); have HV2 := Lib.hid ((HV1.out.below hbw2).alloc (.cells #[.int .i64 k, .string S] 25)); have T2 := Blk.new w2 25 #[.int .i64 k, .string S]; have HT2 := Lib.hid T2; clear T2) | ((go_at_call 13); (with_reducible refine (H2.out _ HV2.out).mono ?_); rintro e w3 ⟨rfl, hbw3⟩; have HG3 := Lib.hid ((HG2.out.below hbw3).alloc (.cells #[.int .i64 k, .string S] 25)); have HV3 := Lib.hid ((HV2.out.below hbw3).alloc (.cells #[.int .i64 k, .string S] 25)); have HT3 := Lib.hid ((Blk.call HT2.out hbw3).alloc (.cells #[.int .i64 k, .string S] 25)); have HU3 := Lib.hid (Blk.new w3 25 #[.int .i64 k, .string S])) | ((go_at_call 14); (with_reducible refine (H3.out _ HG3.out HV3.out).mono ?_); rintro e w4 ⟨rfl, hbw4⟩; have HG4 := Lib.hid ((HG3.out.below hbw4).alloc (.cells #[.int .i64 0, .string ⟨#[]⟩] 25)); have HV4 := Lib.hid ((HV3.out.below hbw4).alloc (.cells #[.int .i64 0, .string ⟨#[]⟩] 25)); have HT4 := Lib.hid ((Blk.call HT3.out hbw4).alloc (.cells #[.int .i64 0, .string ⟨#[]⟩] 25)); have HU4 := Lib.hid ((Blk.call HU3.out hbw4).alloc (.cells #[.int .i64 0, .string ⟨#[]⟩] 25)); have HX4 := Lib.hid (Blk.new w4 25 #[.int .i64 0, .string ⟨#[]⟩])) | ((go_at_call 15); (with_reducible refine (H4.out _ HV4.out).mono ?_); rintro e w5 ⟨rfl, hbw5⟩; have HG5 := Lib.hid ((HG4.out.below hbw5).alloc (.cells #[.int .i64 0, .string ⟨#[]⟩] 25)); have HV5 := Lib.hid ((HV4.out.below hbw5).alloc (.cells #[.int .i64 0, .string ⟨#[]⟩] 25)); have T5 := Blk.call HT4.out hbw5; have U5 := Blk.call HU4.out hbw5; have X5 := Blk.call HX4.out hbw5; have qT := T5.q; have qU := U5.q; have qX := X5.q; have lT := T5.lt; have lU := U5.lt; have lX := X5.lt) | ((go_at_call 16); (with_reducible refine (H5.out _ HG5.out).mono ?_); rintro e w6 ⟨v6, rfl, ho6, hbw6⟩; obtain ⟨A6, k6, rfl⟩ := isB_slice ho6.isB; have HO6 := Lib.hid ho6.isB; have HV6 := Lib.hid (HV5.out.below hbw6); clear ho6) | ((go_at_call 17); (with_reducible refine (H6.out _ _ _ HO6.out HV6.out).mono ?_); rintro e w7 ⟨rfl, hbw7⟩))
  go_ret
  have s1 := hbw1.size
  have s2 := hbw2.size
  have s3 := hbw3.size
  have s4 := hbw4.size
  have s5 := hbw5.size
  have s6 := hbw6.size
  have s7 := hbw7.size
  simp at s1 s2 s3 s4 s5 s6 s7
  have c2 : Below w.heap.size w w2 := hbw1.trans (hbw2.mono (by omega))
  have c3 : Below w.heap.size w w3 := (c2.alloc (by omega) _).trans (hbw3.mono (by simp; omega))
  have c4 : Below w.heap.size w w4 := (c3.alloc (by omega) _).trans (hbw4.mono (by simp; omega))
  have c5 : Below w.heap.size w w5 := (c4.alloc (by omega) _).trans (hbw5.mono (by simp; omega))
  have c6 : Below w.heap.size w w6 := (c5.alloc (by omega) _).trans (hbw6.mono (by simp; omega))
  have c7 : Below w.heap.size w w7 := c6.trans (hbw7.mono (by omega))
  exact ⟨by (first | rfl | simp [*]), c7⟩

set_option maxRecDepth 100000 in
set_option maxHeartbeats 4000000 in
theorem yy_ (v : Value) (b : List UInt8) (w : World) (hv : IsB w v b) (hG : Glo w) (hl : b.length ≤ 3000) (k : Int) (S : ByteArray)
    (h1 : ∀ W, Glo W → IsB W v b → Calls Tryz.prog 12 #[v] W (RS k S true W)) (h2 : ∀ W, IsB W v b → Calls Tryz.prog 13 #[v] W (RS k S true W))
    (h3 : ∀ W, Glo W → IsB W v b → Calls Tryz.prog 14 #[v] W (RS k S true W)) (h4 : ∀ W, IsB W v b → Calls Tryz.prog 15 #[v] W (RS k S true W))
    (h5 : ∀ W, Glo W → Calls Tryz.prog 16 #[.agg #[.int .i64 k, .string S]] W (RetOidY b W)) :
    Calls Tryz.prog 3 #[v] w (RetB (.bool true) w) := by
  have hlen := hv.len (P := Tryz.prog) ulB
  have HA : Hid (∀ W, Glo W → Calls Tryz.prog 11 #[] W (RetB (.bool true) W)) := awake_any
  have H1 := Lib.hid h1
  have H2 := Lib.hid h2
  have H3 := Lib.hid h3
  have H4 := Lib.hid h4
  have H5 := Lib.hid h5
  have H6 : Hid (∀ W u x, IsB W u b → IsB W x b → Calls Tryz.prog 17 #[u, x] W (RetB (.bool true) W)) := fun W u x g1 g2 => by have := bytes_any u x b b W g1 g2; rwa [decide_eq_true rfl] at this
  have hss := str_eq S
  have he0 := str_eq ⟨#[]⟩
  have HG := Lib.hid hG
  have HV := Lib.hid hv
  obtain ⟨A, c, rfl⟩ := isB_slice hv
  have hl' : (b.length : Int) ≤ 3000 := by omega
  clear hv hG hl h1 h2 h3 h4 h5
  go_enter Tryz.func3, Tryz.ntmps3
  go_wp2_with (first | ((go_at_call 11); (with_reducible refine (HA.out _ HG.out).mono ?_); rintro e w1 ⟨rfl, hbw1⟩; have HG1 := Lib.hid (HG.out.below hbw1); have HV1 := Lib.hid (HV.out.below hbw1)) | ((go_at_call 12); (with_reducible refine (H1.out _ HG1.out HV1.out).mono ?_); rintro e w2 ⟨rfl, hbw2⟩; have HG2 := Lib.hid ((HG1.out.below hbw2).alloc (.cells #[.int .i64 k, .string S] 25)); have HV2 := Lib.hid ((HV1.out.below hbw2).alloc (.cells #[.int .i64 k, .string S] 25)); have T2 := Blk.new w2 25 #[.int .i64 k, .string S]; have HT2 := Lib.hid T2; clear T2) | ((go_at_call 13); (with_reducible refine (H2.out _ HV2.out).mono ?_); rintro e w3 ⟨rfl, hbw3⟩; have HG3 := Lib.hid ((HG2.out.below hbw3).alloc (.cells #[.int .i64 k, .string S] 25)); have HV3 := Lib.hid ((HV2.out.below hbw3).alloc (.cells #[.int .i64 k, .string S] 25)); have HT3 := Lib.hid ((Blk.call HT2.out hbw3).alloc (.cells #[.int .i64 k, .string S] 25)); have HU3 := Lib.hid (Blk.new w3 25 #[.int .i64 k, .string S])) | ((go_at_call 14); (with_reducible refine (H3.out _ HG3.out HV3.out).mono ?_); rintro e w4 ⟨rfl, hbw4⟩; have HG4 := Lib.hid ((HG3.out.below hbw4).alloc (.cells #[.int .i64 k, .string S] 25)); have HV4 := Lib.hid ((HV3.out.below hbw4).alloc (.cells #[.int .i64 k, .string S] 25)); have HT4 := Lib.hid ((Blk.call HT3.out hbw4).alloc (.cells #[.int .i64 k, .string S] 25)); have HU4 := Lib.hid ((Blk.call HU3.out hbw4).alloc (.cells #[.int .i64 k, .string S] 25)); have HX4 := Lib.hid (Blk.new w4 25 #[.int .i64 k, .string S])) | ((go_at_call 15); (with_reducible refine (H4.out _ HV4.out).mono ?_); rintro e w5 ⟨rfl, hbw5⟩; have HG5 := Lib.hid ((HG4.out.below hbw5).alloc (.cells #[.int .i64 k, .string S] 25)); have HV5 := Lib.hid ((HV4.out.below hbw5).alloc (.cells #[.int .i64 k, .string S] 25)); have T5 := Blk.call HT4.out hbw5; have U5 := Blk.call HU4.out hbw5; have X5 := Blk.call HX4.out hbw5; have qT := T5.q; have qU := U5.q; have qX := X5.q; have lT := T5.lt; have lU := U5.lt; have lX := X5.lt) | ((go_at_call 16); (with_reducible refine (H5.out _ HG5.out).mono ?_); rintro e w6 ⟨v6, rfl, ho6, hbw6⟩; obtain ⟨A6, k6, rfl⟩ := isB_slice ho6.isB; have HO6 := Lib.hid ho6.isB; have HV6 := Lib.hid (HV5.out.below hbw6); clear ho6) | ((go_at_call 17); (with_reducible refine (H6.out _ _ _ HO6.out HV6.out).mono ?_); rintro e w7 ⟨rfl, hbw7⟩))
  go_ret
  have s1 := hbw1.size
  have s2 := hbw2.size
  have s3 := hbw3.size
  have s4 := hbw4.size
  have s5 := hbw5.size
  have s6 := hbw6.size
  have s7 := hbw7.size
  simp at s1 s2 s3 s4 s5 s6 s7
  have c2 : Below w.heap.size w w2 := hbw1.trans (hbw2.mono (by omega))
  have c3 : Below w.heap.size w w3 := (c2.alloc (by omega) _).trans (hbw3.mono (by simp; omega))
  have c4 : Below w.heap.size w w4 := (c3.alloc (by omega) _).trans (hbw4.mono (by simp; omega))
  have c5 : Below w.heap.size w w5 := (c4.alloc (by omega) _).trans (hbw5.mono (by simp; omega))
  have c6 : Below w.heap.size w w6 := (c5.alloc (by omega) _).trans (hbw6.mono (by simp; omega))
  have c7 : Below w.heap.size w w7 := c6.trans (hbw7.mono (by omega))
  exact ⟨by (first | rfl | simp [*]), c7⟩

set_option maxRecDepth 100000 in
set_option maxHeartbeats 4000000 in
theorem long_ (v : Value) (b : List UInt8) (w : World) (hv : IsB w v b) (hG : Glo w) (hl : ¬ b.length ≤ 3000) : Calls Tryz.prog 3 #[v] w (RetB (.bool true) w) := by
  have hlen := hv.len (P := Tryz.prog) ulB
  have HA : Hid (∀ W, Glo W → Calls Tryz.prog 11 #[] W (RetB (.bool true) W)) := awake_any
  have HG := Lib.hid hG
  obtain ⟨A, c, rfl⟩ := isB_slice hv
  have hl' : 3000 < (b.length : Int) := by omega
  clear hv hG hl
  go_enter Tryz.func3, Tryz.ntmps3
  go_wp2_with (first | ((go_at_call 11); (with_reducible refine (HA.out _ HG.out).mono ?_); rintro e w1 ⟨rfl, hbw1⟩) | ((go_at_call 11); (with_reducible refine (HA.out _ (HG.out.below hbw1)).mono ?_); rintro e w2 ⟨rfl, hbw2⟩))
  go_ret
  exact ⟨rfl, hbw1.trans (hbw2.mono hbw1.size)⟩
theorem walk (v : Value) (b : List UInt8) (w : World) (hv : IsB w v b) (hG : Glo w) : Calls Tryz.prog 3 #[v] w (RetB (.bool true) w) := by
  by_cases hl : b.length ≤ 3000
  · have h1 := fun W (g : Glo W) (h : IsB W v b) => string_any v b W g h (by omega) (fun x _ => kindOk_all x.num)
    have h2 := fun W (h : IsB W v b) => rString v b W h (by omega)
    have h3 := fun W (g : Glo W) (h : IsB W v b) => directory_any v b W g h (by omega) (fun x _ => kindOk_all x.num)
    have h4 := fun W (h : IsB W v b) => rDirectory v b W h (by omega)
    rw [dirD_filled] at h3 h4
    cases hs : strD b with
    | none =>
      rw [hs] at h1 h2 h3 h4
      exact no_ v b w hv hG hl h1 h2 h3 h4
    | some p =>
      obtain ⟨k, s⟩ := p
      have hE := strE_of (by omega) hs
      have hsl := strD_len (by omega) hs
      have h5 : ∀ W, Glo W → Calls Tryz.prog 16 #[.agg #[.int .i64 k, .string (bStr s)]] W (RetOidY b W) := fun W g => by
        have h := fromString k (bStr s) W (kindOk_all k) g (by show s.toArray.size ≤ 100000; simp; omega)
        rw [show (bStr s).data.toList = s by simp [bStr], hE] at h
        exact h.mono fun e w' hh => hh.yes
      rw [hs] at h1 h2 h3 h4
      simp only at h3 h4
      by_cases hf : filledS k s = true
      · rw [if_pos hf] at h3 h4
        exact yy_ v b w hv hG hl k (bStr s) h1 h2 h3 h4 h5
      · rw [if_neg hf] at h3 h4
        exact yn_ v b w hv hG hl k (bStr s) h1 h2 h3 h4 h5
  · exact long_ v b w hv hG hl

theorem witness_row (os : Os) {H : Type} (enc : TypeId × Value → H) :
    (OpenSpec.ofChange Rows.attributeStringsSpec).preRow enc Tryz.prog Tryz.f3 Rows.attributeStringsRow.domain false Rows.attributeStringsRow.laid ((laidW os).forCall (fun _ _ => 0) ⟨#[], #[.slice none 0 0], []⟩).memory #[.slice none 0 0] := by
  have hw : (DataW.whole enc Tryz.prog ((laidW os).forCall (fun _ _ => 0) ⟨#[], #[.slice none 0 0], []⟩).memory Tryz.f3.params.toList (OpenSpec.ofChange Rows.attributeStringsSpec).vars false #[(.slice none 0 0 : Value)].toList 8).map (fun x => (x.1, x.2.1)) =
      some ([.nil], []) := by kernel_rfl
  obtain ⟨⟨x1, x2, x3⟩, hx, hx1⟩ := Option.map_eq_some_iff.1 hw
  simp only [Prod.mk.injEq] at hx1
  obtain ⟨rfl, rfl⟩ := hx1
  exact OpenSpec.preRow_of_cond 8 hx (by kernel_rfl) (fun k hk => by cases hk) (by kernel_rfl) (laidW_met os _)

set_option maxRecDepth 100000 in
set_option maxHeartbeats 2000000 in
theorem lifted (os : Os) (started : os.Started) (H : Type) (enc : TypeId × Value → H) (F : Stop.Interp) :
    ReturnsInHanded {} Tryz.checked os 3 .any ((OpenSpec.ofChange Rows.attributeStringsSpec).preRow enc Tryz.prog Tryz.f3 Rows.attributeStringsRow.domain false Rows.attributeStringsRow.laid) (((OpenSpec.ofChange Rows.attributeStringsSpec).at F).post enc Tryz.prog Tryz.f3 false true false false) := by
  refine returnsInHanded_of_row (C := Tryz.checked) (s := OpenSpec.ofChange Rows.attributeStringsSpec) lw_own started (by kernel_rfl) Tryz.func3
    (witness_laid #[.slice none 0 0] (by kernel_rfl) (witness_row os enc)) ?_
  intro W base args ds gs before hval0 hW hcnd _ hz0 hL hsh _
  have hG : Glo W := glo_of W hL hsh
  have hval : ∀ (j : Nat) t v, Tryz.f3.params[j]? = some t → args[j]? = some v → Value.okWide Tryz.prog W .any base t v := hval0
  have hW' := hW
  obtain ⟨p, q, hA0, hV, rfl, hfz, hnd⟩ := hW
  have hA : DataW.TrodAll enc Tryz.prog W 0 (fun _ => true) true Tryz.f3.params.toList args.toList ds p := hA0
  rw [Tryz.params3] at hA hval
  obtain ⟨v0, vs0, d0, ds0, p0, q0, hargs, rfl, rfl, h0, r0⟩ := trodAll_cons hA
  obtain ⟨rfl, rfl, rfl⟩ := trodAll_nil r0
  obtain rfl : args = #[v0] := by cases args; simp_all
  obtain ⟨rfl, rfl⟩ := trodVars_none hV
  have lt0 : ∀ x ∈ p0, x.block < W.heap.size := by obtain ⟨m, hm⟩ := h0; exact DataW.trod_lt m _ _ _ hm
  obtain ⟨l0, w0⟩ := open_bytes (hval 0 22 v0 rfl rfl) h0
  clear hA0 hval0
  refine (walk _ l0 W w0 hG).mono fun e W' ⟨he, bel⟩ => ?_
  subst he
  exact ⟨_, rfl, _, _, _, [], _, [], hW', trodAll_mk1 (shut_bool (by kernel_rfl : Tryz.prog.underlying 4 = some .bool) _), (trodAll_cons_mk (Below.trod lw_laidOut (by kernel_rfl) (of_decide_eq_true (by kernel_rfl)) h0 bel lt0) trodAll_mk0), rfl, bel.frame _, fun h => by cases h⟩

theorem holds : Rows.AttributeStringsSaid :=
  OpenClaim.holds_of_cond 3 Tryz.f3 rfl rfl rfl rfl rfl rfl rfl ⟨rfl, rfl, rfl, rfl, rfl⟩ rfl rfl rfl rfl rfl (by kernel_rfl) Tryz.func3 (by kernel_rfl)
    (of_decide_eq_true (by kernel_rfl)) (by unfold Func.isWrapper; first | (rw [if_pos (by decide +kernel)]; kernel_rfl) | (rw [if_neg (by decide +kernel)]; exact ⟨rfl, rfl⟩))
    (fun os started H enc _ F0 => by rw [OpenClaim.pre_eq_preRow]; exact lifted os started H enc F0)

theorem proved : Rows.AttributeStringsCardSaid :=
  Claim7.holds_tied_plain_at .later [] [.data, .data, .data, .data, .sentinel, .sentinel, .pinned] true (true, "a669af08838cfad0aa38966214e8cb1e037c880dbfa1422bd235b91a679aa7b7") true holds (fun _ h => by cases h) (by kernel_rfl) (fun _ h => by cases h) attributeStrings_row_tie rfl ⟨rfl, rfl⟩ (by kernel_rfl) rfl
    (fun f fn hf hfn => by
      obtain rfl : f = 3 := Option.some.inj ((show Tryz.prog.funcNamed "cretula/cretulalaw11.AttributeStrings" = some 3 by kernel_rfl).symm.trans hf) |>.symm
      obtain rfl : fn = Tryz.f3 := (Option.some.inj (Tryz.func3.symm.trans hfn)).symm
      exact ⟨by kernel_rfl, fun j t ht => by
        rw [Tryz.params3] at ht
        have hm : t ∈ [22] := by simpa using Array.mem_of_getElem? ht
        have hall : ([22].all fun u => !Tryz.prog.wantsStandIn u) = true := by kernel_rfl
        exact (show Tryz.prog.wantsStandIn t = false by simpa using List.all_eq_true.1 hall t hm)⟩)
    (by kernel_rfl)
#print axioms proved
end Go.Proofs.YtejmkefdcjachaaGreatDoor.StrsDone
