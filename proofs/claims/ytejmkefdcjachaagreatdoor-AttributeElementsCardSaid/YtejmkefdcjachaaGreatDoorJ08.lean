/- The parts ShelfA of one proof, one behind the other. -/
import Derived.Ground.MpProg
import Derived.Shelf.Pu.ParseUintPublic10
import Derived.Shelf.Small.Utf8
import Derived.Shelf.Strconv.Itoa1
import Derived.Shelf.Strconv.Itoa2
import Derived.Shelf.Strings.BuilderK
import Derived.Shelf.Strings.BuilderRune
import Derived.Shelf.Strings.OnBuilder
import Derived.Shelf.Strings.Runes
import Derived.Shelf.Strings.Split
import Derived.Shelf.Unicode.ValidAny
import Derived.Test.YtejmkefdcjachaaGreatDoorProg

/- Go's library at this seat's numbers, out of the kit's shelf (lay-shelf.mjs, lay-plain.mjs). -/
section
namespace Go.Proofs
open Go.Shelf
def Tryz.laysValid_ren : Go.Shelf.Ren := ⟨fun | 196 => 96 | 259 => 119 | n => n, fun | 9 => 9 | 4 => 4 | 3 => 3 | 5 => 5 | 12 => 12 | 119 => 165 | 0 => 0 | 46 => 100 | 139 => 168 | 138 => 167 | 53 => 127 | n => n, fun | 3 => 0 | 4 => 1 | n => n⟩
theorem Tryz.laysValid : Go.Proofs.Lays.n196 Tryz.prog Tryz.laysValid_ren := {
  mixed := by kernel_rfl
  f196 := Tryz.func96.trans (congrArg some (by kernel_rfl))
  f259 := Tryz.func119.trans (congrArg some (by kernel_rfl))
  t0 := Tryz.underlying0
  a0 := Tryz.isAgg0
  z0 := Tryz.sizeOf0
  v0 := Tryz.zeroValue0
  t3 := Tryz.underlying3
  a3 := Tryz.isAgg3
  z3 := Tryz.sizeOf3
  v3 := Tryz.zeroValue3
  t4 := Tryz.underlying4
  a4 := Tryz.isAgg4
  z4 := Tryz.sizeOf4
  v4 := Tryz.zeroValue4
  t5 := Tryz.underlying5
  a5 := Tryz.isAgg5
  z5 := Tryz.sizeOf5
  v5 := Tryz.zeroValue5
  t9 := Tryz.underlying9
  a9 := Tryz.isAgg9
  z9 := Tryz.sizeOf9
  v9 := Tryz.zeroValue9
  t12 := Tryz.underlying12
  a12 := Tryz.isAgg12
  z12 := Tryz.sizeOf12
  v12 := Tryz.zeroValue12
  t46 := Tryz.underlying100
  a46 := Tryz.isAgg100
  z46 := Tryz.sizeOf100
  v46 := Tryz.zeroValue100
  t53 := Tryz.underlying127
  a53 := Tryz.isAgg127
  z53 := Tryz.sizeOf127
  v53 := Tryz.zeroValue127
  t119 := Tryz.underlying165
  a119 := Tryz.isAgg165
  z119 := Tryz.sizeOf165
  t138 := Tryz.underlying167
  a138 := Tryz.isAgg167
  z138 := Tryz.sizeOf167
  v138 := Tryz.zeroValue167
  t139 := Tryz.underlying168
  a139 := Tryz.isAgg168
  z139 := Tryz.sizeOf168
  v139 := Tryz.zeroValue168
  g3 := by kernel_rfl
  g4 := by kernel_rfl }
def Tryz.lays169_ren : Go.Shelf.Ren := ⟨fun | 169 => 63 | n => n, fun | 70 => 93 | 9 => 9 | 0 => 0 | 72 => 95 | 37 => 22 | 127 => 139 | 3 => 3 | 5 => 5 | n => n, fun | n => n⟩
theorem Tryz.lays169 : Go.Proofs.Lays.n169 Tryz.prog Tryz.lays169_ren := {
  mixed := by kernel_rfl
  f169 := Tryz.func63.trans (congrArg some (by kernel_rfl))
  t0 := Tryz.underlying0
  a0 := Tryz.isAgg0
  z0 := Tryz.sizeOf0
  v0 := Tryz.zeroValue0
  t3 := Tryz.underlying3
  a3 := Tryz.isAgg3
  z3 := Tryz.sizeOf3
  v3 := Tryz.zeroValue3
  t9 := Tryz.underlying9
  a9 := Tryz.isAgg9
  z9 := Tryz.sizeOf9
  v9 := Tryz.zeroValue9
  t37 := Tryz.underlying22
  a37 := Tryz.isAgg22
  z37 := Tryz.sizeOf22
  v37 := Tryz.zeroValue22
  t70 := Tryz.underlying93
  a70 := Tryz.isAgg93
  z70 := Tryz.sizeOf93
  v70 := Tryz.zeroValue93
  t72 := Tryz.underlying95
  a72 := Tryz.isAgg95
  z72 := Tryz.sizeOf95
  v72 := Tryz.zeroValue95
  t127 := Tryz.underlying139
  a127 := Tryz.isAgg139
  z127 := Tryz.sizeOf139
  v127 := Tryz.zeroValue139 }
theorem Tryz.Builder_Extra_169 : Builder.Extra Tryz.prog Tryz.lays169_ren := {
  sizeBuilder := by kernel_rfl
  liesBuilder := by kernel_rfl
  t5 := Tryz.underlying5
  a5 := Tryz.isAgg5
  z5 := Tryz.sizeOf5
  v5 := Tryz.zeroValue5
  infoByte := by kernel_rfl
  cellsByte := by kernel_rfl
  sizeByte := by kernel_rfl
  neB5 := by decide }
def Tryz.lays156_ren : Go.Shelf.Ren := ⟨fun | 156 => 110 | 165 => 128 | 166 => 129 | 169 => 63 | 240 => 94 | 241 => 150 | 276 => 117 | 277 => 166 | n => n, fun | 31 => 68 | 9 => 9 | 3 => 3 | 4 => 4 | 0 => 0 | 20 => 20 | 72 => 95 | 76 => 103 | 70 => 93 | 37 => 22 | 75 => 102 | 127 => 139 | 164 => 162 | 5 => 5 | 80 => 105 | n => n, fun | n => n⟩
theorem Tryz.lays156 : Go.Proofs.Lays.n156 Tryz.prog Tryz.lays156_ren := {
  mixed := by kernel_rfl
  f156 := Tryz.func110.trans (congrArg some (by kernel_rfl))
  f165 := Tryz.func128.trans (congrArg some (by kernel_rfl))
  f166 := Tryz.func129.trans (congrArg some (by kernel_rfl))
  f169 := Tryz.func63.trans (congrArg some (by kernel_rfl))
  f240 := Tryz.func94.trans (congrArg some (by kernel_rfl))
  f241 := Tryz.func150.trans (congrArg some (by kernel_rfl))
  f276 := Tryz.func117.trans (congrArg some (by kernel_rfl))
  f277 := Tryz.func166.trans (congrArg some (by kernel_rfl))
  t0 := Tryz.underlying0
  a0 := Tryz.isAgg0
  z0 := Tryz.sizeOf0
  v0 := Tryz.zeroValue0
  t3 := Tryz.underlying3
  a3 := Tryz.isAgg3
  z3 := Tryz.sizeOf3
  v3 := Tryz.zeroValue3
  t4 := Tryz.underlying4
  a4 := Tryz.isAgg4
  z4 := Tryz.sizeOf4
  v4 := Tryz.zeroValue4
  t9 := Tryz.underlying9
  a9 := Tryz.isAgg9
  z9 := Tryz.sizeOf9
  v9 := Tryz.zeroValue9
  t20 := Tryz.underlying20
  a20 := Tryz.isAgg20
  z20 := Tryz.sizeOf20
  v20 := Tryz.zeroValue20
  t31 := Tryz.underlying68
  a31 := Tryz.isAgg68
  z31 := Tryz.sizeOf68
  v31 := Tryz.zeroValue68
  t37 := Tryz.underlying22
  a37 := Tryz.isAgg22
  z37 := Tryz.sizeOf22
  v37 := Tryz.zeroValue22
  t70 := Tryz.underlying93
  a70 := Tryz.isAgg93
  z70 := Tryz.sizeOf93
  v70 := Tryz.zeroValue93
  t72 := Tryz.underlying95
  a72 := Tryz.isAgg95
  z72 := Tryz.sizeOf95
  v72 := Tryz.zeroValue95
  t75 := Tryz.underlying102
  a75 := Tryz.isAgg102
  z75 := Tryz.sizeOf102
  v75 := Tryz.zeroValue102
  t76 := Tryz.underlying103
  a76 := Tryz.isAgg103
  z76 := Tryz.sizeOf103
  v76 := Tryz.zeroValue103
  t127 := Tryz.underlying139
  a127 := Tryz.isAgg139
  z127 := Tryz.sizeOf139
  v127 := Tryz.zeroValue139
  t164 := Tryz.underlying162
  a164 := Tryz.isAgg162
  z164 := Tryz.sizeOf162
  v164 := Tryz.zeroValue162 }
theorem Tryz.Builder_Extra_156 : Builder.Extra Tryz.prog Tryz.lays156_ren := {
  sizeBuilder := by kernel_rfl
  liesBuilder := by kernel_rfl
  t5 := Tryz.underlying5
  a5 := Tryz.isAgg5
  z5 := Tryz.sizeOf5
  v5 := Tryz.zeroValue5
  infoByte := by kernel_rfl
  cellsByte := by kernel_rfl
  sizeByte := by kernel_rfl
  neB5 := by decide }
open Go.RowKit in
/-- No element: the empty string; the world is as it was. (Whatever the slice's address and capacity: a nil slice too.) (LAID: no walk: one application.) -/
theorem Tryz.strings_Join_none (a : Option Addr) (c : Nat) (sep : ByteArray) (w : World) :
    Calls Tryz.prog 110 #[.slice a 0 c, .string sep] w fun e w' => e = .returned (.string ⟨#[]⟩) ∧ w' = w := Any.strings_Join_none Tryz.lays156 Tryz.Builder_Extra_156 a c sep w
open Go.RowKit in
/-- strings.Join: "Join concatenates the elements of its first argument to create a single string. The separator string sep is placed between elements in the resulting string.": HOWEVER MANY ELEMENTS. Below the heap's end the world is as it was. (LAID: no walk: one application.) -/
theorem Tryz.strings_Join (bk o c : Nat) (xs : List ByteArray) (sep : ByteArray) (w : World) (hcells : ∀ (j : Nat) x, xs[j]? = some x → w.cell? ⟨bk, o + j, none⟩ = some (.string x)) (hbk : bk < w.heap.size) (hN : xs.length ≤ 140737488355328) (hcap : xs.length ≤ c) (hlen : (Lib.join (xs.map (·.data.toList)) sep.data.toList).length ≤ 140737488355328) :
    Calls Tryz.prog 110 #[.slice (some ⟨bk, o, none⟩) xs.length c, .string sep] w fun e w' => e = .returned (.string ⟨(Lib.join (xs.map (·.data.toList)) sep.data.toList).toArray⟩) ∧ Below w.heap.size w w' := Any.strings_Join Tryz.lays156 Tryz.Builder_Extra_156 bk o c xs sep w hcells hbk hN hcap hlen
def Tryz.lays119_ren : Go.Shelf.Ren := ⟨fun | 119 => 91 | n => n, fun | 21 => 21 | 4 => 4 | n => n, fun | n => n⟩
theorem Tryz.lays119 : Go.Proofs.Lays.n119 Tryz.prog Tryz.lays119_ren := {
  mixed := by kernel_rfl
  f119 := Tryz.func91.trans (congrArg some (by kernel_rfl))
  t4 := Tryz.underlying4
  a4 := Tryz.isAgg4
  z4 := Tryz.sizeOf4
  v4 := Tryz.zeroValue4
  t21 := Tryz.underlying21
  a21 := Tryz.isAgg21
  z21 := Tryz.sizeOf21
  v21 := Tryz.zeroValue21 }
/-- utf8.ValidRune: "ValidRune reports whether r can be legally encoded as UTF-8. Code points that are out of range or a surrogate half are illegal.": IT RETURNS 'Lib.validRune r'; the world is as it was. (LAID: no walk: one application.) -/
theorem Tryz.utf8_ValidRune (r : Int) (w : World) :
    Calls Tryz.prog 91 #[.int .i32 r] w fun e w' => e = .returned (.bool (Lib.validRune r)) ∧ w' = w := Any.utf8_ValidRune Tryz.lays119 r w
open Go.RowKit in
/-- (*strings.Builder).String: "String returns the accumulated string.": WHATEVER THE BUILDER HOLDS; THE FORM '_k': OVER 'Lib.IsBuilderF' (a builder that 'String()' may have read), AND WITH THE FRAME THAT REACHES ABOVE THE BUILDER: 'Lib.OthersKept': every block that is not b and is no row of uint8's stands as it stood: the iterator of a range among them. (LAID: no walk: one application.) -/
theorem Tryz.Builder_String_any_k (B b : Nat) (l : List UInt8) (w : World) (h : Lib.IsBuilderF 95 5 B b (Lib.byteCells l) w) (hBw : B ≤ w.heap.size) :
    Calls Tryz.prog 63 #[.pointer (some ⟨b, 0, none⟩)] w fun e w' => e = .returned (.string ⟨l.toArray⟩) ∧ (Lib.IsBuilderF 95 5 B b (Lib.byteCells l) w' ∧ Below B w w' ∧ Lib.OthersKept 5 (some b) w w') := Any.Builder_String_any_k Tryz.lays169 Tryz.Builder_Extra_169 B b l w h hBw
def Tryz.lays283_ren : Go.Shelf.Ren := ⟨fun | 283 => 146 | n => n, fun | 3 => 3 | 9 => 9 | 4 => 4 | n => n, fun | n => n⟩
theorem Tryz.lays283 : Go.Proofs.Lays.n283 Tryz.prog Tryz.lays283_ren := {
  mixed := by kernel_rfl
  f283 := Tryz.func146.trans (congrArg some (by kernel_rfl))
  t3 := Tryz.underlying3
  a3 := Tryz.isAgg3
  z3 := Tryz.sizeOf3
  v3 := Tryz.zeroValue3
  t4 := Tryz.underlying4
  a4 := Tryz.isAgg4
  z4 := Tryz.sizeOf4
  v4 := Tryz.zeroValue4
  t9 := Tryz.underlying9
  a9 := Tryz.isAgg9
  z9 := Tryz.sizeOf9
  v9 := Tryz.zeroValue9 }
open Go.Lib in
/-- internal/strconv.small: "small returns the string for an i with 0 <= i < nSmalls.": i's decimal numeral. The world is as it was. (LAID: no walk: one application.) -/
theorem Tryz.internal_strconv_small (i : Nat) (h : i < 100) (w : World) :
    Calls Tryz.prog 146 #[.int .i64 i] w fun e w' => e = .returned (.string ⟨(Lib.decDigits i).toArray⟩) ∧ w' = w := Any.internal_strconv_small Tryz.lays283 i h w
def Tryz.laysM284_ren : Go.Shelf.Ren := ⟨fun | 284 => 147 | 129 => 162 | 317 => 161 | 318 => 163 | n => n, fun | 53 => 127 | 3 => 3 | 212 => 199 | 0 => 0 | 4 => 4 | 46 => 100 | 5 => 5 | 9 => 9 | n => n, fun | 17 => 5 | n => n⟩
theorem Tryz.laysM284 : Go.Proofs.LaysM.n284 Tryz.prog Tryz.laysM284_ren := {
  mixed := by kernel_rfl
  f129 := Tryz.func162.trans (congrArg some (by kernel_rfl))
  f284 := Tryz.func147.trans (congrArg some (by kernel_rfl))
  f317 := Tryz.func161.trans (congrArg some (by kernel_rfl))
  f318 := Tryz.func163.trans (congrArg some (by kernel_rfl))
  t0 := Tryz.underlying0
  a0 := Tryz.isAgg0
  z0 := Tryz.sizeOf0
  v0 := Tryz.zeroValue0
  t3 := Tryz.underlying3
  a3 := Tryz.isAgg3
  z3 := Tryz.sizeOf3
  v3 := Tryz.zeroValue3
  t4 := Tryz.underlying4
  a4 := Tryz.isAgg4
  z4 := Tryz.sizeOf4
  v4 := Tryz.zeroValue4
  t5 := Tryz.underlying5
  a5 := Tryz.isAgg5
  z5 := Tryz.sizeOf5
  v5 := Tryz.zeroValue5
  t9 := Tryz.underlying9
  a9 := Tryz.isAgg9
  z9 := Tryz.sizeOf9
  v9 := Tryz.zeroValue9
  t46 := Tryz.underlying100
  a46 := Tryz.isAgg100
  z46 := Tryz.sizeOf100
  v46 := Tryz.zeroValue100
  t53 := Tryz.underlying127
  a53 := Tryz.isAgg127
  z53 := Tryz.sizeOf127
  v53 := Tryz.zeroValue127
  t212 := Tryz.underlying199
  a212 := Tryz.isAgg199
  z212 := Tryz.sizeOf199
  v212 := Tryz.zeroValue199
  g17 := by kernel_rfl
  i0 := by kernel_rfl
  i3 := by kernel_rfl
  i4 := by kernel_rfl
  i5 := by kernel_rfl
  i9 := by kernel_rfl
  i46 := by kernel_rfl
  i53 := by kernel_rfl
  i212 := by kernel_rfl
  m17 := by kernel_rfl }
open Go.Lib in
/-- internal/strconv.numDigits, at a d that is not 0: THE NUMBER OF d's DECIMAL DIGITS. The world is as it was. (LAID: no walk: one application.) -/
theorem Tryz.internal_strconv_numDigits (u : Nat) (h1 : 1 ≤ u) (h2 : u < 18446744073709551616) (w : World) (htab : Lib.TabIs Tryz.prog w "internal/strconv.uint64pow10" .u64 Lib.pow10Tab) :
    Calls Tryz.prog 147 #[.int .u64 u] w fun e w' => e = .returned (.int .i64 (Lib.nDigits u)) ∧ w' = w := Any.internal_strconv_numDigits Tryz.laysM284 u h1 h2 w htab
def Tryz.lays285_ren : Go.Shelf.Ren := ⟨fun | 285 => 148 | n => n, fun | 37 => 22 | 53 => 127 | 3 => 3 | 4 => 4 | 51 => 99 | 9 => 9 | 5 => 5 | 0 => 0 | n => n, fun | n => n⟩
theorem Tryz.lays285 : Go.Proofs.Lays.n285 Tryz.prog Tryz.lays285_ren := {
  mixed := by kernel_rfl
  f285 := Tryz.func148.trans (congrArg some (by kernel_rfl))
  t0 := Tryz.underlying0
  a0 := Tryz.isAgg0
  z0 := Tryz.sizeOf0
  v0 := Tryz.zeroValue0
  t3 := Tryz.underlying3
  a3 := Tryz.isAgg3
  z3 := Tryz.sizeOf3
  v3 := Tryz.zeroValue3
  t4 := Tryz.underlying4
  a4 := Tryz.isAgg4
  z4 := Tryz.sizeOf4
  v4 := Tryz.zeroValue4
  t5 := Tryz.underlying5
  a5 := Tryz.isAgg5
  z5 := Tryz.sizeOf5
  v5 := Tryz.zeroValue5
  t9 := Tryz.underlying9
  a9 := Tryz.isAgg9
  z9 := Tryz.sizeOf9
  v9 := Tryz.zeroValue9
  t37 := Tryz.underlying22
  a37 := Tryz.isAgg22
  z37 := Tryz.sizeOf22
  v37 := Tryz.zeroValue22
  t51 := Tryz.underlying99
  a51 := Tryz.isAgg99
  z51 := Tryz.sizeOf99
  v51 := Tryz.zeroValue99
  t53 := Tryz.underlying127
  a53 := Tryz.isAgg127
  z53 := Tryz.sizeOf127
  v53 := Tryz.zeroValue127 }
open Go.RowKit Go.Sort Go.Lib in
/-- internal/strconv.formatBase10: "formatBase10 formats the decimal representation of u into a. The caller is responsible for ensuring that a is big enough to hold u. If a is too big, leading zeros will be filled in as needed.": THE ROW HOLDS u's DIGITS ('FmtInv .. 0 ..': every place t holds 'dg u (len - 1 - t)'); all else is as it was but for the count of draws. (LAID: no walk: one application.) -/
theorem Tryz.internal_strconv_formatBase10 (blk off cap : Nat) (u : Nat) (d : Array UInt8) (w : World) (hH : Holds (fun (b : UInt8) => Value.int .u8 (b.toNat : Int)) w blk off d) (hu : u < 10 ^ d.size) (hu64 : u < 18446744073709551616) (hsz : d.size < 4611686018427387904) :
    Calls Tryz.prog 148 #[.slice (some ⟨blk, off, none⟩) d.size cap, .int .u64 u] w fun e w' =>
      e = .returned (.tuple #[]) ∧ ∃ (n v' : Nat) (dk : Array UInt8), w' = (putRow (fun (b : UInt8) => Value.int .u8 (b.toNat : Int)) w blk off dk).drewN n ∧ FmtInv d.size u 0 v' dk := Any.internal_strconv_formatBase10 Tryz.lays285 blk off cap u d w hH hu hu64 hsz
def Tryz.laysPu14_ren : Go.Shelf.Ren := ⟨fun | 14 => 103 | 16 => 123 | 17 => 124 | 19 => 140 | 20 => 141 | 21 => 142 | 22 => 143 | 23 => 144 | 24 => 145 | 25 => 158 | 27 => 160 | 26 => 159 | 28 => 172 | 29 => 176 | 30 => 146 | 31 => 147 | 32 => 148 | 33 => 149 | 35 => 162 | 34 => 161 | 36 => 163 | 37 => 164 | 38 => 165 | 39 => 173 | 40 => 174 | n => n, fun | 9 => 9 | 3 => 3 | 22 => 127 | 24 => 102 | 25 => 147 | 4 => 4 | 34 => 181 | 5 => 5 | 36 => 100 | 37 => 22 | 0 => 0 | 39 => 183 | 21 => 21 | 44 => 196 | 47 => 139 | 50 => 206 | 48 => 204 | 2 => 2 | 52 => 187 | 55 => 190 | 59 => 199 | 60 => 99 | 20 => 20 | 61 => 200 | 65 => 211 | 66 => 212 | 67 => 105 | n => n, fun | 0 => 3 | 1 => 4 | 2 => 5 | 3 => 6 | 4 => 7 | n => n⟩
theorem Tryz.laysPu14 : Go.Proofs.LaysPu.n14 Tryz.prog Tryz.laysPu14_ren := {
  mixed := by kernel_rfl
  f14 := Tryz.func103.trans (congrArg some (by kernel_rfl))
  f16 := Tryz.func123.trans (congrArg some (by kernel_rfl))
  f17 := Tryz.func124.trans (congrArg some (by kernel_rfl))
  f19 := Tryz.func140.trans (congrArg some (by kernel_rfl))
  f20 := Tryz.func141.trans (congrArg some (by kernel_rfl))
  f21 := Tryz.func142.trans (congrArg some (by kernel_rfl))
  f22 := Tryz.func143.trans (congrArg some (by kernel_rfl))
  f23 := Tryz.func144.trans (congrArg some (by kernel_rfl))
  f24 := Tryz.func145.trans (congrArg some (by kernel_rfl))
  f25 := Tryz.func158.trans (congrArg some (by kernel_rfl))
  f26 := Tryz.func159.trans (congrArg some (by kernel_rfl))
  f27 := Tryz.func160.trans (congrArg some (by kernel_rfl))
  f28 := Tryz.func172.trans (congrArg some (by kernel_rfl))
  f29 := Tryz.func176.trans (congrArg some (by kernel_rfl))
  f30 := Tryz.func146.trans (congrArg some (by kernel_rfl))
  f31 := Tryz.func147.trans (congrArg some (by kernel_rfl))
  f32 := Tryz.func148.trans (congrArg some (by kernel_rfl))
  f33 := Tryz.func149.trans (congrArg some (by kernel_rfl))
  f34 := Tryz.func161.trans (congrArg some (by kernel_rfl))
  f35 := Tryz.func162.trans (congrArg some (by kernel_rfl))
  f36 := Tryz.func163.trans (congrArg some (by kernel_rfl))
  f37 := Tryz.func164.trans (congrArg some (by kernel_rfl))
  f38 := Tryz.func165.trans (congrArg some (by kernel_rfl))
  f39 := Tryz.func173.trans (congrArg some (by kernel_rfl))
  f40 := Tryz.func174.trans (congrArg some (by kernel_rfl))
  t0 := Tryz.underlying0
  a0 := Tryz.isAgg0
  z0 := Tryz.sizeOf0
  v0 := Tryz.zeroValue0
  i0 := by kernel_rfl
  t2 := Tryz.underlying2
  a2 := Tryz.isAgg2
  z2 := Tryz.sizeOf2
  v2 := Tryz.zeroValue2
  i2 := by kernel_rfl
  t3 := Tryz.underlying3
  a3 := Tryz.isAgg3
  z3 := Tryz.sizeOf3
  v3 := Tryz.zeroValue3
  i3 := by kernel_rfl
  t4 := Tryz.underlying4
  a4 := Tryz.isAgg4
  z4 := Tryz.sizeOf4
  v4 := Tryz.zeroValue4
  i4 := by kernel_rfl
  t5 := Tryz.underlying5
  a5 := Tryz.isAgg5
  z5 := Tryz.sizeOf5
  v5 := Tryz.zeroValue5
  i5 := by kernel_rfl
  t9 := Tryz.underlying9
  a9 := Tryz.isAgg9
  z9 := Tryz.sizeOf9
  v9 := Tryz.zeroValue9
  i9 := by kernel_rfl
  t20 := Tryz.underlying20
  a20 := Tryz.isAgg20
  z20 := Tryz.sizeOf20
  v20 := Tryz.zeroValue20
  i20 := by kernel_rfl
  t21 := Tryz.underlying21
  a21 := Tryz.isAgg21
  z21 := Tryz.sizeOf21
  v21 := Tryz.zeroValue21
  i21 := by kernel_rfl
  t22 := Tryz.underlying127
  a22 := Tryz.isAgg127
  z22 := Tryz.sizeOf127
  v22 := Tryz.zeroValue127
  i22 := by kernel_rfl
  t24 := Tryz.underlying102
  a24 := Tryz.isAgg102
  z24 := Tryz.sizeOf102
  v24 := Tryz.zeroValue102
  i24 := by kernel_rfl
  t25 := Tryz.underlying147
  a25 := Tryz.isAgg147
  z25 := Tryz.sizeOf147
  v25 := Tryz.zeroValue147
  i25 := by kernel_rfl
  t34 := Tryz.underlying181
  a34 := Tryz.isAgg181
  z34 := Tryz.sizeOf181
  v34 := Tryz.zeroValue181
  i34 := by kernel_rfl
  c34 := by kernel_rfl
  t36 := Tryz.underlying100
  a36 := Tryz.isAgg100
  z36 := Tryz.sizeOf100
  v36 := Tryz.zeroValue100
  i36 := by kernel_rfl
  t37 := Tryz.underlying22
  a37 := Tryz.isAgg22
  z37 := Tryz.sizeOf22
  v37 := Tryz.zeroValue22
  i37 := by kernel_rfl
  t39 := Tryz.underlying183
  a39 := Tryz.isAgg183
  z39 := Tryz.sizeOf183
  v39 := Tryz.zeroValue183
  i39 := by kernel_rfl
  t44 := Tryz.underlying196
  a44 := Tryz.isAgg196
  z44 := Tryz.sizeOf196
  v44 := Tryz.zeroValue196
  i44 := by kernel_rfl
  t47 := Tryz.underlying139
  a47 := Tryz.isAgg139
  z47 := Tryz.sizeOf139
  v47 := Tryz.zeroValue139
  i47 := by kernel_rfl
  t48 := Tryz.underlying204
  a48 := Tryz.isAgg204
  z48 := Tryz.sizeOf204
  v48 := Tryz.zeroValue204
  i48 := by kernel_rfl
  t50 := Tryz.underlying206
  a50 := Tryz.isAgg206
  z50 := Tryz.sizeOf206
  v50 := Tryz.zeroValue206
  i50 := by kernel_rfl
  t52 := Tryz.underlying187
  a52 := Tryz.isAgg187
  z52 := Tryz.sizeOf187
  v52 := Tryz.zeroValue187
  i52 := by kernel_rfl
  t55 := Tryz.underlying190
  a55 := Tryz.isAgg190
  z55 := Tryz.sizeOf190
  v55 := Tryz.zeroValue190
  i55 := by kernel_rfl
  t59 := Tryz.underlying199
  a59 := Tryz.isAgg199
  z59 := Tryz.sizeOf199
  v59 := Tryz.zeroValue199
  i59 := by kernel_rfl
  t60 := Tryz.underlying99
  a60 := Tryz.isAgg99
  z60 := Tryz.sizeOf99
  v60 := Tryz.zeroValue99
  i60 := by kernel_rfl
  t61 := Tryz.underlying200
  a61 := Tryz.isAgg200
  z61 := Tryz.sizeOf200
  t65 := Tryz.underlying211
  a65 := Tryz.isAgg211
  z65 := Tryz.sizeOf211
  v65 := Tryz.zeroValue211
  i65 := by kernel_rfl
  t66 := Tryz.underlying212
  a66 := Tryz.isAgg212
  z66 := Tryz.sizeOf212
  v66 := Tryz.zeroValue212
  i66 := by kernel_rfl
  t67 := Tryz.underlying105
  a67 := Tryz.isAgg105
  z67 := Tryz.sizeOf105
  v67 := Tryz.zeroValue105
  i67 := by kernel_rfl
  g0 := by kernel_rfl
  m0 := by kernel_rfl
  g1 := by kernel_rfl
  m1 := by kernel_rfl
  g2 := by kernel_rfl
  m2 := by kernel_rfl
  g3 := by kernel_rfl
  m3 := by kernel_rfl
  g4 := by kernel_rfl
  m4 := by kernel_rfl }
open Go.RowKit in
/-- strconv.ParseUint(s, 10, 32), AT EVERY STRING THAT SPELLS A uint32 ('Lib.parseUintB 32 s.data.toList = .ok u'): u, AND NO ERROR. (LAID: no walk: one application.) -/
theorem Tryz.strconv_ParseUint_10_at32_ok (s : ByteArray) (hmax : s.size ≤ 9223372036854775806) (u : Nat) (h : Lib.parseUintB 32 s.data.toList = .ok u) (w : World) :
    Calls Tryz.prog 103 #[.string s, .int .i64 10, .int .i64 32] w fun e w' => e = .returned (.tuple #[.int .u64 u, .nilIface]) ∧ (w' = w ∨ w' = Lib.bytesWorld w 5 s) := Any.strconv_ParseUint_10_at32_ok Tryz.laysPu14 s hmax u h w
open Go.RowKit in
/-- strconv.ParseUint(s, 10, 32), AT EVERY NUMERAL THAT NO uint32 HOLDS: THE GREATEST uint32, AND AN ERROR THAT IS NOT nil: a *NumError in a new block N: {Func: "ParseUint", Num: s's bytes, Err: what the variable ErrRange holds}. Of what was there nothing has turned. (LAID: no walk: one application.) -/
theorem Tryz.strconv_ParseUint_10_at32_range (s : ByteArray) (hlim : s.size ≤ 281474976710656) (h : Lib.parseUintB 32 s.data.toList = .range) (ev : Value) (w : World) (hv : w.cell? ⟨4, 0, none⟩ = some ev) (hev : ev = .nilIface ∨ ∃ te pe, ev = .iface te pe) :
    Calls Tryz.prog 103 #[.string s, .int .i64 10, .int .i64 32] w fun e w' => ∃ N, e = .returned (.tuple #[.int .u64 4294967295, .iface 183 (.pointer (some ⟨N, 0, none⟩))]) ∧ w.heap.size ≤ N ∧ w'.heap[N]? = some (.cells #[.string ⟨#[80, 97, 114, 115, 101, 85, 105, 110, 116]⟩, .string s, ev] 196 (0, 0)) ∧ Below w.heap.size w w' := Any.strconv_ParseUint_10_at32_range Tryz.laysPu14 s hlim h ev w hv hev
def Tryz.lays146_ren : Go.Shelf.Ren := ⟨fun | 146 => 102 | 221 => 122 | 268 => 137 | 138 => 138 | 143 => 139 | 195 => 154 | 197 => 155 | 218 => 156 | 219 => 157 | 260 => 170 | 217 => 151 | 225 => 135 | 224 => 134 | 267 => 171 | 266 => 167 | 314 => 175 | n => n, fun | 9 => 9 | 31 => 68 | 3 => 3 | 4 => 4 | 0 => 0 | 105 => 193 | 21 => 21 | 5 => 5 | 46 => 100 | 119 => 165 | 139 => 168 | 138 => 167 | 146 => 208 | 51 => 99 | n => n, fun | 1 => 2 | 3 => 0 | 4 => 1 | n => n⟩
theorem Tryz.lays146 : Go.Proofs.Lays.n146 Tryz.prog Tryz.lays146_ren := {
  mixed := by kernel_rfl
  f138 := Tryz.func138.trans (congrArg some (by kernel_rfl))
  f143 := Tryz.func139.trans (congrArg some (by kernel_rfl))
  f146 := Tryz.func102.trans (congrArg some (by kernel_rfl))
  f195 := Tryz.func154.trans (congrArg some (by kernel_rfl))
  f197 := Tryz.func155.trans (congrArg some (by kernel_rfl))
  f217 := Tryz.func151.trans (congrArg some (by kernel_rfl))
  f218 := Tryz.func156.trans (congrArg some (by kernel_rfl))
  f219 := Tryz.func157.trans (congrArg some (by kernel_rfl))
  f221 := Tryz.func122.trans (congrArg some (by kernel_rfl))
  f224 := Tryz.func134.trans (congrArg some (by kernel_rfl))
  f225 := Tryz.func135.trans (congrArg some (by kernel_rfl))
  f260 := Tryz.func170.trans (congrArg some (by kernel_rfl))
  f266 := Tryz.func167.trans (congrArg some (by kernel_rfl))
  f267 := Tryz.func171.trans (congrArg some (by kernel_rfl))
  f268 := Tryz.func137.trans (congrArg some (by kernel_rfl))
  f314 := Tryz.func175.trans (congrArg some (by kernel_rfl))
  t0 := Tryz.underlying0
  a0 := Tryz.isAgg0
  z0 := Tryz.sizeOf0
  v0 := Tryz.zeroValue0
  t3 := Tryz.underlying3
  a3 := Tryz.isAgg3
  z3 := Tryz.sizeOf3
  v3 := Tryz.zeroValue3
  t4 := Tryz.underlying4
  a4 := Tryz.isAgg4
  z4 := Tryz.sizeOf4
  v4 := Tryz.zeroValue4
  t5 := Tryz.underlying5
  a5 := Tryz.isAgg5
  z5 := Tryz.sizeOf5
  v5 := Tryz.zeroValue5
  t9 := Tryz.underlying9
  a9 := Tryz.isAgg9
  z9 := Tryz.sizeOf9
  v9 := Tryz.zeroValue9
  t21 := Tryz.underlying21
  a21 := Tryz.isAgg21
  z21 := Tryz.sizeOf21
  v21 := Tryz.zeroValue21
  t31 := Tryz.underlying68
  a31 := Tryz.isAgg68
  z31 := Tryz.sizeOf68
  v31 := Tryz.zeroValue68
  t46 := Tryz.underlying100
  a46 := Tryz.isAgg100
  z46 := Tryz.sizeOf100
  v46 := Tryz.zeroValue100
  t51 := Tryz.underlying99
  a51 := Tryz.isAgg99
  z51 := Tryz.sizeOf99
  v51 := Tryz.zeroValue99
  t105 := Tryz.underlying193
  a105 := Tryz.isAgg193
  z105 := Tryz.sizeOf193
  v105 := Tryz.zeroValue193
  t119 := Tryz.underlying165
  a119 := Tryz.isAgg165
  z119 := Tryz.sizeOf165
  t138 := Tryz.underlying167
  a138 := Tryz.isAgg167
  z138 := Tryz.sizeOf167
  v138 := Tryz.zeroValue167
  t139 := Tryz.underlying168
  a139 := Tryz.isAgg168
  z139 := Tryz.sizeOf168
  v139 := Tryz.zeroValue168
  t146 := Tryz.underlying208
  a146 := Tryz.isAgg208
  z146 := Tryz.sizeOf208
  v146 := Tryz.zeroValue208
  g1 := by kernel_rfl
  g3 := by kernel_rfl
  g4 := by kernel_rfl }
open Go.RowKit Go.Lib in
/-- strings.Split. (LAID: no walk: one application.) -/
theorem Tryz.strings_Split (s sep : ByteArray) (m : Int) (w : World) (hs : s.size < 4294967281) (hm : w.cell? ⟨2, 0, none⟩ = some (.int .i64 m)) (h1 : 1 ≤ sep.size) :
    Calls Tryz.prog 102 #[.string s, .string sep] w fun e w' =>
      e = .returned (.slice (some ⟨w.heap.size, 0, none⟩) (Lib.countB s sep + 1) (Lib.countB s sep + 1)) ∧ w' = w.alloc (.cells ((Lib.splitB sep 0 (Lib.countB s sep) s).map Value.string).toArray 9) := Any.strings_Split Tryz.lays146 (by kernel_rfl) s sep m w hs hm h1
def Tryz.lays151_ren : Go.Shelf.Ren := ⟨fun | 151 => 88 | 152 => 115 | 137 => 133 | 119 => 91 | 224 => 134 | 225 => 135 | 217 => 151 | 266 => 167 | n => n, fun | 9 => 9 | 21 => 21 | 4 => 4 | 3 => 3 | 5 => 5 | 0 => 0 | 46 => 100 | n => n, fun | n => n⟩
theorem Tryz.lays151 : Go.Proofs.Lays.n151 Tryz.prog Tryz.lays151_ren := {
  mixed := by kernel_rfl
  f119 := Tryz.func91.trans (congrArg some (by kernel_rfl))
  f137 := Tryz.func133.trans (congrArg some (by kernel_rfl))
  f151 := Tryz.func88.trans (congrArg some (by kernel_rfl))
  f152 := Tryz.func115.trans (congrArg some (by kernel_rfl))
  f217 := Tryz.func151.trans (congrArg some (by kernel_rfl))
  f224 := Tryz.func134.trans (congrArg some (by kernel_rfl))
  f225 := Tryz.func135.trans (congrArg some (by kernel_rfl))
  f266 := Tryz.func167.trans (congrArg some (by kernel_rfl))
  t0 := Tryz.underlying0
  a0 := Tryz.isAgg0
  z0 := Tryz.sizeOf0
  v0 := Tryz.zeroValue0
  t3 := Tryz.underlying3
  a3 := Tryz.isAgg3
  z3 := Tryz.sizeOf3
  v3 := Tryz.zeroValue3
  t4 := Tryz.underlying4
  a4 := Tryz.isAgg4
  z4 := Tryz.sizeOf4
  v4 := Tryz.zeroValue4
  t5 := Tryz.underlying5
  a5 := Tryz.isAgg5
  z5 := Tryz.sizeOf5
  v5 := Tryz.zeroValue5
  t9 := Tryz.underlying9
  a9 := Tryz.isAgg9
  z9 := Tryz.sizeOf9
  v9 := Tryz.zeroValue9
  t21 := Tryz.underlying21
  a21 := Tryz.isAgg21
  z21 := Tryz.sizeOf21
  v21 := Tryz.zeroValue21
  t46 := Tryz.underlying100
  a46 := Tryz.isAgg100
  z46 := Tryz.sizeOf100
  v46 := Tryz.zeroValue100 }
open Go.RowKit Go.Lib in
theorem Tryz.strings_ContainsRune_ascii (s : ByteArray) (r : Int) (w : World) (h0 : 0 ≤ r) (h1 : r < 128) :
    Calls Tryz.prog 88 #[.string s, .int .i32 r] w fun e w' => e = .returned (.bool (decide (0 ≤ Lib.indexByte s.data.toList r.toNat.toUInt8))) ∧ w' = w := Any.strings_ContainsRune_ascii Tryz.lays151 s r w h0 h1
end Go.Proofs
end
