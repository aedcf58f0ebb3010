/- The parts ShelfA of one proof, one behind the other. -/
import Derived.Ground.MpProg
import Derived.Shelf.Pu.ParseUintPublic10
import Derived.Shelf.Small.Utf8
import Derived.Shelf.Strconv.Itoa1
import Derived.Shelf.Strconv.Itoa2
import Derived.Shelf.Strings.BuilderK
import Derived.Shelf.Strings.BuilderRune
import Derived.Shelf.Strings.OnBuilder
import Derived.Shelf.Strings.Runes
import Derived.Shelf.Strings.Split
import Derived.Shelf.Unicode.ValidAny
import Derived.Test.YtjjkimjdmpeddaaGreatDoorProg

/- Go's library at this seat's numbers, out of the kit's shelf (lay-shelf.mjs, lay-plain.mjs). -/
section
namespace Go.Proofs
open Go.Shelf
def Tryz.laysValid_ren : Go.Shelf.Ren := ⟨fun | 196 => 149 | 259 => 171 | n => n, fun | 9 => 9 | 4 => 4 | 3 => 3 | 5 => 5 | 12 => 12 | 119 => 211 | 0 => 0 | 46 => 163 | 139 => 214 | 138 => 213 | 53 => 151 | n => n, fun | 3 => 0 | 4 => 1 | n => n⟩
theorem Tryz.laysValid : Go.Proofs.Lays.n196 Tryz.prog Tryz.laysValid_ren := {
  mixed := by kernel_rfl
  f196 := Tryz.func149.trans (congrArg some (by kernel_rfl))
  f259 := Tryz.func171.trans (congrArg some (by kernel_rfl))
  t0 := Tryz.underlying0
  a0 := Tryz.isAgg0
  z0 := Tryz.sizeOf0
  v0 := Tryz.zeroValue0
  t3 := Tryz.underlying3
  a3 := Tryz.isAgg3
  z3 := Tryz.sizeOf3
  v3 := Tryz.zeroValue3
  t4 := Tryz.underlying4
  a4 := Tryz.isAgg4
  z4 := Tryz.sizeOf4
  v4 := Tryz.zeroValue4
  t5 := Tryz.underlying5
  a5 := Tryz.isAgg5
  z5 := Tryz.sizeOf5
  v5 := Tryz.zeroValue5
  t9 := Tryz.underlying9
  a9 := Tryz.isAgg9
  z9 := Tryz.sizeOf9
  v9 := Tryz.zeroValue9
  t12 := Tryz.underlying12
  a12 := Tryz.isAgg12
  z12 := Tryz.sizeOf12
  v12 := Tryz.zeroValue12
  t46 := Tryz.underlying163
  a46 := Tryz.isAgg163
  z46 := Tryz.sizeOf163
  v46 := Tryz.zeroValue163
  t53 := Tryz.underlying151
  a53 := Tryz.isAgg151
  z53 := Tryz.sizeOf151
  v53 := Tryz.zeroValue151
  t119 := Tryz.underlying211
  a119 := Tryz.isAgg211
  z119 := Tryz.sizeOf211
  t138 := Tryz.underlying213
  a138 := Tryz.isAgg213
  z138 := Tryz.sizeOf213
  v138 := Tryz.zeroValue213
  t139 := Tryz.underlying214
  a139 := Tryz.isAgg214
  z139 := Tryz.sizeOf214
  v139 := Tryz.zeroValue214
  g3 := by kernel_rfl
  g4 := by kernel_rfl }
def Tryz.lays169_ren : Go.Shelf.Ren := ⟨fun | 169 => 159 | n => n, fun | 70 => 190 | 9 => 9 | 0 => 0 | 72 => 192 | 37 => 32 | 127 => 217 | 3 => 3 | 5 => 5 | n => n, fun | n => n⟩
theorem Tryz.lays169 : Go.Proofs.Lays.n169 Tryz.prog Tryz.lays169_ren := {
  mixed := by kernel_rfl
  f169 := Tryz.func159.trans (congrArg some (by kernel_rfl))
  t0 := Tryz.underlying0
  a0 := Tryz.isAgg0
  z0 := Tryz.sizeOf0
  v0 := Tryz.zeroValue0
  t3 := Tryz.underlying3
  a3 := Tryz.isAgg3
  z3 := Tryz.sizeOf3
  v3 := Tryz.zeroValue3
  t9 := Tryz.underlying9
  a9 := Tryz.isAgg9
  z9 := Tryz.sizeOf9
  v9 := Tryz.zeroValue9
  t37 := Tryz.underlying32
  a37 := Tryz.isAgg32
  z37 := Tryz.sizeOf32
  v37 := Tryz.zeroValue32
  t70 := Tryz.underlying190
  a70 := Tryz.isAgg190
  z70 := Tryz.sizeOf190
  v70 := Tryz.zeroValue190
  t72 := Tryz.underlying192
  a72 := Tryz.isAgg192
  z72 := Tryz.sizeOf192
  v72 := Tryz.zeroValue192
  t127 := Tryz.underlying217
  a127 := Tryz.isAgg217
  z127 := Tryz.sizeOf217
  v127 := Tryz.zeroValue217 }
theorem Tryz.Builder_Extra_169 : Builder.Extra Tryz.prog Tryz.lays169_ren := {
  sizeBuilder := by kernel_rfl
  liesBuilder := by kernel_rfl
  t5 := Tryz.underlying5
  a5 := Tryz.isAgg5
  z5 := Tryz.sizeOf5
  v5 := Tryz.zeroValue5
  infoByte := by kernel_rfl
  cellsByte := by kernel_rfl
  sizeByte := by kernel_rfl
  neB5 := by decide }
def Tryz.lays156_ren : Go.Shelf.Ren := ⟨fun | 156 => 167 | 165 => 193 | 166 => 194 | 169 => 159 | 240 => 175 | 241 => 215 | 276 => 199 | 277 => 224 | n => n, fun | 31 => 167 | 9 => 9 | 3 => 3 | 4 => 4 | 0 => 0 | 20 => 20 | 72 => 192 | 76 => 196 | 70 => 190 | 37 => 32 | 75 => 170 | 127 => 217 | 164 => 239 | 5 => 5 | 80 => 198 | n => n, fun | n => n⟩
theorem Tryz.lays156 : Go.Proofs.Lays.n156 Tryz.prog Tryz.lays156_ren := {
  mixed := by kernel_rfl
  f156 := Tryz.func167.trans (congrArg some (by kernel_rfl))
  f165 := Tryz.func193.trans (congrArg some (by kernel_rfl))
  f166 := Tryz.func194.trans (congrArg some (by kernel_rfl))
  f169 := Tryz.func159.trans (congrArg some (by kernel_rfl))
  f240 := Tryz.func175.trans (congrArg some (by kernel_rfl))
  f241 := Tryz.func215.trans (congrArg some (by kernel_rfl))
  f276 := Tryz.func199.trans (congrArg some (by kernel_rfl))
  f277 := Tryz.func224.trans (congrArg some (by kernel_rfl))
  t0 := Tryz.underlying0
  a0 := Tryz.isAgg0
  z0 := Tryz.sizeOf0
  v0 := Tryz.zeroValue0
  t3 := Tryz.underlying3
  a3 := Tryz.isAgg3
  z3 := Tryz.sizeOf3
  v3 := Tryz.zeroValue3
  t4 := Tryz.underlying4
  a4 := Tryz.isAgg4
  z4 := Tryz.sizeOf4
  v4 := Tryz.zeroValue4
  t9 := Tryz.underlying9
  a9 := Tryz.isAgg9
  z9 := Tryz.sizeOf9
  v9 := Tryz.zeroValue9
  t20 := Tryz.underlying20
  a20 := Tryz.isAgg20
  z20 := Tryz.sizeOf20
  v20 := Tryz.zeroValue20
  t31 := Tryz.underlying167
  a31 := Tryz.isAgg167
  z31 := Tryz.sizeOf167
  v31 := Tryz.zeroValue167
  t37 := Tryz.underlying32
  a37 := Tryz.isAgg32
  z37 := Tryz.sizeOf32
  v37 := Tryz.zeroValue32
  t70 := Tryz.underlying190
  a70 := Tryz.isAgg190
  z70 := Tryz.sizeOf190
  v70 := Tryz.zeroValue190
  t72 := Tryz.underlying192
  a72 := Tryz.isAgg192
  z72 := Tryz.sizeOf192
  v72 := Tryz.zeroValue192
  t75 := Tryz.underlying170
  a75 := Tryz.isAgg170
  z75 := Tryz.sizeOf170
  v75 := Tryz.zeroValue170
  t76 := Tryz.underlying196
  a76 := Tryz.isAgg196
  z76 := Tryz.sizeOf196
  v76 := Tryz.zeroValue196
  t127 := Tryz.underlying217
  a127 := Tryz.isAgg217
  z127 := Tryz.sizeOf217
  v127 := Tryz.zeroValue217
  t164 := Tryz.underlying239
  a164 := Tryz.isAgg239
  z164 := Tryz.sizeOf239
  v164 := Tryz.zeroValue239 }
theorem Tryz.Builder_Extra_156 : Builder.Extra Tryz.prog Tryz.lays156_ren := {
  sizeBuilder := by kernel_rfl
  liesBuilder := by kernel_rfl
  t5 := Tryz.underlying5
  a5 := Tryz.isAgg5
  z5 := Tryz.sizeOf5
  v5 := Tryz.zeroValue5
  infoByte := by kernel_rfl
  cellsByte := by kernel_rfl
  sizeByte := by kernel_rfl
  neB5 := by decide }
open Go.RowKit in
/-- No element: the empty string; the world is as it was. (Whatever the slice's address and capacity: a nil slice too.) (LAID: no walk: one application.) -/
theorem Tryz.strings_Join_none (a : Option Addr) (c : Nat) (sep : ByteArray) (w : World) :
    Calls Tryz.prog 167 #[.slice a 0 c, .string sep] w fun e w' => e = .returned (.string ⟨#[]⟩) ∧ w' = w := Any.strings_Join_none Tryz.lays156 Tryz.Builder_Extra_156 a c sep w
open Go.RowKit in
/-- strings.Join: "Join concatenates the elements of its first argument to create a single string. The separator string sep is placed between elements in the resulting string.": HOWEVER MANY ELEMENTS. Below the heap's end the world is as it was. (LAID: no walk: one application.) -/
theorem Tryz.strings_Join (bk o c : Nat) (xs : List ByteArray) (sep : ByteArray) (w : World) (hcells : ∀ (j : Nat) x, xs[j]? = some x → w.cell? ⟨bk, o + j, none⟩ = some (.string x)) (hbk : bk < w.heap.size) (hN : xs.length ≤ 140737488355328) (hcap : xs.length ≤ c) (hlen : (Lib.join (xs.map (·.data.toList)) sep.data.toList).length ≤ 140737488355328) :
    Calls Tryz.prog 167 #[.slice (some ⟨bk, o, none⟩) xs.length c, .string sep] w fun e w' => e = .returned (.string ⟨(Lib.join (xs.map (·.data.toList)) sep.data.toList).toArray⟩) ∧ Below w.heap.size w w' := Any.strings_Join Tryz.lays156 Tryz.Builder_Extra_156 bk o c xs sep w hcells hbk hN hcap hlen
def Tryz.lays119_ren : Go.Shelf.Ren := ⟨fun | 119 => 154 | n => n, fun | 21 => 21 | 4 => 4 | n => n, fun | n => n⟩
theorem Tryz.lays119 : Go.Proofs.Lays.n119 Tryz.prog Tryz.lays119_ren := {
  mixed := by kernel_rfl
  f119 := Tryz.func154.trans (congrArg some (by kernel_rfl))
  t4 := Tryz.underlying4
  a4 := Tryz.isAgg4
  z4 := Tryz.sizeOf4
  v4 := Tryz.zeroValue4
  t21 := Tryz.underlying21
  a21 := Tryz.isAgg21
  z21 := Tryz.sizeOf21
  v21 := Tryz.zeroValue21 }
/-- utf8.ValidRune: "ValidRune reports whether r can be legally encoded as UTF-8. Code points that are out of range or a surrogate half are illegal.": IT RETURNS 'Lib.validRune r'; the world is as it was. (LAID: no walk: one application.) -/
theorem Tryz.utf8_ValidRune (r : Int) (w : World) :
    Calls Tryz.prog 154 #[.int .i32 r] w fun e w' => e = .returned (.bool (Lib.validRune r)) ∧ w' = w := Any.utf8_ValidRune Tryz.lays119 r w
open Go.RowKit in
/-- (*strings.Builder).String: "String returns the accumulated string.": WHATEVER THE BUILDER HOLDS; THE FORM '_k': OVER 'Lib.IsBuilderF' (a builder that 'String()' may have read), AND WITH THE FRAME THAT REACHES ABOVE THE BUILDER: 'Lib.OthersKept': every block that is not b and is no row of uint8's stands as it stood: the iterator of a range among them. (LAID: no walk: one application.) -/
theorem Tryz.Builder_String_any_k (B b : Nat) (l : List UInt8) (w : World) (h : Lib.IsBuilderF 192 5 B b (Lib.byteCells l) w) (hBw : B ≤ w.heap.size) :
    Calls Tryz.prog 159 #[.pointer (some ⟨b, 0, none⟩)] w fun e w' => e = .returned (.string ⟨l.toArray⟩) ∧ (Lib.IsBuilderF 192 5 B b (Lib.byteCells l) w' ∧ Below B w w' ∧ Lib.OthersKept 5 (some b) w w') := Any.Builder_String_any_k Tryz.lays169 Tryz.Builder_Extra_169 B b l w h hBw
def Tryz.lays283_ren : Go.Shelf.Ren := ⟨fun | 283 => 187 | n => n, fun | 3 => 3 | 9 => 9 | 4 => 4 | n => n, fun | n => n⟩
theorem Tryz.lays283 : Go.Proofs.Lays.n283 Tryz.prog Tryz.lays283_ren := {
  mixed := by kernel_rfl
  f283 := Tryz.func187.trans (congrArg some (by kernel_rfl))
  t3 := Tryz.underlying3
  a3 := Tryz.isAgg3
  z3 := Tryz.sizeOf3
  v3 := Tryz.zeroValue3
  t4 := Tryz.underlying4
  a4 := Tryz.isAgg4
  z4 := Tryz.sizeOf4
  v4 := Tryz.zeroValue4
  t9 := Tryz.underlying9
  a9 := Tryz.isAgg9
  z9 := Tryz.sizeOf9
  v9 := Tryz.zeroValue9 }
open Go.Lib in
/-- internal/strconv.small: "small returns the string for an i with 0 <= i < nSmalls.": i's decimal numeral. The world is as it was. (LAID: no walk: one application.) -/
theorem Tryz.internal_strconv_small (i : Nat) (h : i < 100) (w : World) :
    Calls Tryz.prog 187 #[.int .i64 i] w fun e w' => e = .returned (.string ⟨(Lib.decDigits i).toArray⟩) ∧ w' = w := Any.internal_strconv_small Tryz.lays283 i h w
def Tryz.laysM284_ren : Go.Shelf.Ren := ⟨fun | 284 => 188 | 129 => 210 | 317 => 209 | 318 => 211 | n => n, fun | 53 => 151 | 3 => 3 | 212 => 248 | 0 => 0 | 4 => 4 | 46 => 163 | 5 => 5 | 9 => 9 | n => n, fun | 17 => 4 | n => n⟩
theorem Tryz.laysM284 : Go.Proofs.LaysM.n284 Tryz.prog Tryz.laysM284_ren := {
  mixed := by kernel_rfl
  f129 := Tryz.func210.trans (congrArg some (by kernel_rfl))
  f284 := Tryz.func188.trans (congrArg some (by kernel_rfl))
  f317 := Tryz.func209.trans (congrArg some (by kernel_rfl))
  f318 := Tryz.func211.trans (congrArg some (by kernel_rfl))
  t0 := Tryz.underlying0
  a0 := Tryz.isAgg0
  z0 := Tryz.sizeOf0
  v0 := Tryz.zeroValue0
  t3 := Tryz.underlying3
  a3 := Tryz.isAgg3
  z3 := Tryz.sizeOf3
  v3 := Tryz.zeroValue3
  t4 := Tryz.underlying4
  a4 := Tryz.isAgg4
  z4 := Tryz.sizeOf4
  v4 := Tryz.zeroValue4
  t5 := Tryz.underlying5
  a5 := Tryz.isAgg5
  z5 := Tryz.sizeOf5
  v5 := Tryz.zeroValue5
  t9 := Tryz.underlying9
  a9 := Tryz.isAgg9
  z9 := Tryz.sizeOf9
  v9 := Tryz.zeroValue9
  t46 := Tryz.underlying163
  a46 := Tryz.isAgg163
  z46 := Tryz.sizeOf163
  v46 := Tryz.zeroValue163
  t53 := Tryz.underlying151
  a53 := Tryz.isAgg151
  z53 := Tryz.sizeOf151
  v53 := Tryz.zeroValue151
  t212 := Tryz.underlying248
  a212 := Tryz.isAgg248
  z212 := Tryz.sizeOf248
  v212 := Tryz.zeroValue248
  g17 := by kernel_rfl
  i0 := by kernel_rfl
  i3 := by kernel_rfl
  i4 := by kernel_rfl
  i5 := by kernel_rfl
  i9 := by kernel_rfl
  i46 := by kernel_rfl
  i53 := by kernel_rfl
  i212 := by kernel_rfl
  m17 := by kernel_rfl }
open Go.Lib in
/-- internal/strconv.numDigits, at a d that is not 0: THE NUMBER OF d's DECIMAL DIGITS. The world is as it was. (LAID: no walk: one application.) -/
theorem Tryz.internal_strconv_numDigits (u : Nat) (h1 : 1 ≤ u) (h2 : u < 18446744073709551616) (w : World) (htab : Lib.TabIs Tryz.prog w "internal/strconv.uint64pow10" .u64 Lib.pow10Tab) :
    Calls Tryz.prog 188 #[.int .u64 u] w fun e w' => e = .returned (.int .i64 (Lib.nDigits u)) ∧ w' = w := Any.internal_strconv_numDigits Tryz.laysM284 u h1 h2 w htab
def Tryz.lays285_ren : Go.Shelf.Ren := ⟨fun | 285 => 189 | n => n, fun | 37 => 32 | 53 => 151 | 3 => 3 | 4 => 4 | 51 => 162 | 9 => 9 | 5 => 5 | 0 => 0 | n => n, fun | n => n⟩
theorem Tryz.lays285 : Go.Proofs.Lays.n285 Tryz.prog Tryz.lays285_ren := {
  mixed := by kernel_rfl
  f285 := Tryz.func189.trans (congrArg some (by kernel_rfl))
  t0 := Tryz.underlying0
  a0 := Tryz.isAgg0
  z0 := Tryz.sizeOf0
  v0 := Tryz.zeroValue0
  t3 := Tryz.underlying3
  a3 := Tryz.isAgg3
  z3 := Tryz.sizeOf3
  v3 := Tryz.zeroValue3
  t4 := Tryz.underlying4
  a4 := Tryz.isAgg4
  z4 := Tryz.sizeOf4
  v4 := Tryz.zeroValue4
  t5 := Tryz.underlying5
  a5 := Tryz.isAgg5
  z5 := Tryz.sizeOf5
  v5 := Tryz.zeroValue5
  t9 := Tryz.underlying9
  a9 := Tryz.isAgg9
  z9 := Tryz.sizeOf9
  v9 := Tryz.zeroValue9
  t37 := Tryz.underlying32
  a37 := Tryz.isAgg32
  z37 := Tryz.sizeOf32
  v37 := Tryz.zeroValue32
  t51 := Tryz.underlying162
  a51 := Tryz.isAgg162
  z51 := Tryz.sizeOf162
  v51 := Tryz.zeroValue162
  t53 := Tryz.underlying151
  a53 := Tryz.isAgg151
  z53 := Tryz.sizeOf151
  v53 := Tryz.zeroValue151 }
open Go.RowKit Go.Sort Go.Lib in
/-- internal/strconv.formatBase10: "formatBase10 formats the decimal representation of u into a. The caller is responsible for ensuring that a is big enough to hold u. If a is too big, leading zeros will be filled in as needed.": THE ROW HOLDS u's DIGITS ('FmtInv .. 0 ..': every place t holds 'dg u (len - 1 - t)'); all else is as it was but for the count of draws. (LAID: no walk: one application.) -/
theorem Tryz.internal_strconv_formatBase10 (blk off cap : Nat) (u : Nat) (d : Array UInt8) (w : World) (hH : Holds (fun (b : UInt8) => Value.int .u8 (b.toNat : Int)) w blk off d) (hu : u < 10 ^ d.size) (hu64 : u < 18446744073709551616) (hsz : d.size < 4611686018427387904) :
    Calls Tryz.prog 189 #[.slice (some ⟨blk, off, none⟩) d.size cap, .int .u64 u] w fun e w' =>
      e = .returned (.tuple #[]) ∧ ∃ (n v' : Nat) (dk : Array UInt8), w' = (putRow (fun (b : UInt8) => Value.int .u8 (b.toNat : Int)) w blk off dk).drewN n ∧ FmtInv d.size u 0 v' dk := Any.internal_strconv_formatBase10 Tryz.lays285 blk off cap u d w hH hu hu64 hsz
def Tryz.laysPu14_ren : Go.Shelf.Ren := ⟨fun | 14 => 138 | 16 => 162 | 17 => 163 | 19 => 181 | 20 => 182 | 21 => 183 | 22 => 184 | 23 => 185 | 24 => 186 | 25 => 206 | 27 => 208 | 26 => 207 | 28 => 221 | 29 => 227 | 30 => 187 | 31 => 188 | 32 => 189 | 33 => 190 | 35 => 210 | 34 => 209 | 36 => 211 | 37 => 212 | 38 => 213 | 39 => 222 | 40 => 223 | n => n, fun | 9 => 9 | 3 => 3 | 22 => 151 | 24 => 170 | 25 => 171 | 4 => 4 | 34 => 220 | 5 => 5 | 36 => 163 | 37 => 32 | 0 => 0 | 39 => 222 | 21 => 21 | 44 => 245 | 47 => 217 | 50 => 257 | 48 => 255 | 2 => 2 | 52 => 226 | 55 => 229 | 59 => 248 | 60 => 162 | 20 => 20 | 61 => 249 | 65 => 262 | 66 => 263 | 67 => 198 | n => n, fun | 0 => 2 | 1 => 3 | 2 => 4 | 3 => 6 | 4 => 7 | n => n⟩
theorem Tryz.laysPu14 : Go.Proofs.LaysPu.n14 Tryz.prog Tryz.laysPu14_ren := {
  mixed := by kernel_rfl
  f14 := Tryz.func138.trans (congrArg some (by kernel_rfl))
  f16 := Tryz.func162.trans (congrArg some (by kernel_rfl))
  f17 := Tryz.func163.trans (congrArg some (by kernel_rfl))
  f19 := Tryz.func181.trans (congrArg some (by kernel_rfl))
  f20 := Tryz.func182.trans (congrArg some (by kernel_rfl))
  f21 := Tryz.func183.trans (congrArg some (by kernel_rfl))
  f22 := Tryz.func184.trans (congrArg some (by kernel_rfl))
  f23 := Tryz.func185.trans (congrArg some (by kernel_rfl))
  f24 := Tryz.func186.trans (congrArg some (by kernel_rfl))
  f25 := Tryz.func206.trans (congrArg some (by kernel_rfl))
  f26 := Tryz.func207.trans (congrArg some (by kernel_rfl))
  f27 := Tryz.func208.trans (congrArg some (by kernel_rfl))
  f28 := Tryz.func221.trans (congrArg some (by kernel_rfl))
  f29 := Tryz.func227.trans (congrArg some (by kernel_rfl))
  f30 := Tryz.func187.trans (congrArg some (by kernel_rfl))
  f31 := Tryz.func188.trans (congrArg some (by kernel_rfl))
  f32 := Tryz.func189.trans (congrArg some (by kernel_rfl))
  f33 := Tryz.func190.trans (congrArg some (by kernel_rfl))
  f34 := Tryz.func209.trans (congrArg some (by kernel_rfl))
  f35 := Tryz.func210.trans (congrArg some (by kernel_rfl))
  f36 := Tryz.func211.trans (congrArg some (by kernel_rfl))
  f37 := Tryz.func212.trans (congrArg some (by kernel_rfl))
  f38 := Tryz.func213.trans (congrArg some (by kernel_rfl))
  f39 := Tryz.func222.trans (congrArg some (by kernel_rfl))
  f40 := Tryz.func223.trans (congrArg some (by kernel_rfl))
  t0 := Tryz.underlying0
  a0 := Tryz.isAgg0
  z0 := Tryz.sizeOf0
  v0 := Tryz.zeroValue0
  i0 := by kernel_rfl
  t2 := Tryz.underlying2
  a2 := Tryz.isAgg2
  z2 := Tryz.sizeOf2
  v2 := Tryz.zeroValue2
  i2 := by kernel_rfl
  t3 := Tryz.underlying3
  a3 := Tryz.isAgg3
  z3 := Tryz.sizeOf3
  v3 := Tryz.zeroValue3
  i3 := by kernel_rfl
  t4 := Tryz.underlying4
  a4 := Tryz.isAgg4
  z4 := Tryz.sizeOf4
  v4 := Tryz.zeroValue4
  i4 := by kernel_rfl
  t5 := Tryz.underlying5
  a5 := Tryz.isAgg5
  z5 := Tryz.sizeOf5
  v5 := Tryz.zeroValue5
  i5 := by kernel_rfl
  t9 := Tryz.underlying9
  a9 := Tryz.isAgg9
  z9 := Tryz.sizeOf9
  v9 := Tryz.zeroValue9
  i9 := by kernel_rfl
  t20 := Tryz.underlying20
  a20 := Tryz.isAgg20
  z20 := Tryz.sizeOf20
  v20 := Tryz.zeroValue20
  i20 := by kernel_rfl
  t21 := Tryz.underlying21
  a21 := Tryz.isAgg21
  z21 := Tryz.sizeOf21
  v21 := Tryz.zeroValue21
  i21 := by kernel_rfl
  t22 := Tryz.underlying151
  a22 := Tryz.isAgg151
  z22 := Tryz.sizeOf151
  v22 := Tryz.zeroValue151
  i22 := by kernel_rfl
  t24 := Tryz.underlying170
  a24 := Tryz.isAgg170
  z24 := Tryz.sizeOf170
  v24 := Tryz.zeroValue170
  i24 := by kernel_rfl
  t25 := Tryz.underlying171
  a25 := Tryz.isAgg171
  z25 := Tryz.sizeOf171
  v25 := Tryz.zeroValue171
  i25 := by kernel_rfl
  t34 := Tryz.underlying220
  a34 := Tryz.isAgg220
  z34 := Tryz.sizeOf220
  v34 := Tryz.zeroValue220
  i34 := by kernel_rfl
  c34 := by kernel_rfl
  t36 := Tryz.underlying163
  a36 := Tryz.isAgg163
  z36 := Tryz.sizeOf163
  v36 := Tryz.zeroValue163
  i36 := by kernel_rfl
  t37 := Tryz.underlying32
  a37 := Tryz.isAgg32
  z37 := Tryz.sizeOf32
  v37 := Tryz.zeroValue32
  i37 := by kernel_rfl
  t39 := Tryz.underlying222
  a39 := Tryz.isAgg222
  z39 := Tryz.sizeOf222
  v39 := Tryz.zeroValue222
  i39 := by kernel_rfl
  t44 := Tryz.underlying245
  a44 := Tryz.isAgg245
  z44 := Tryz.sizeOf245
  v44 := Tryz.zeroValue245
  i44 := by kernel_rfl
  t47 := Tryz.underlying217
  a47 := Tryz.isAgg217
  z47 := Tryz.sizeOf217
  v47 := Tryz.zeroValue217
  i47 := by kernel_rfl
  t48 := Tryz.underlying255
  a48 := Tryz.isAgg255
  z48 := Tryz.sizeOf255
  v48 := Tryz.zeroValue255
  i48 := by kernel_rfl
  t50 := Tryz.underlying257
  a50 := Tryz.isAgg257
  z50 := Tryz.sizeOf257
  v50 := Tryz.zeroValue257
  i50 := by kernel_rfl
  t52 := Tryz.underlying226
  a52 := Tryz.isAgg226
  z52 := Tryz.sizeOf226
  v52 := Tryz.zeroValue226
  i52 := by kernel_rfl
  t55 := Tryz.underlying229
  a55 := Tryz.isAgg229
  z55 := Tryz.sizeOf229
  v55 := Tryz.zeroValue229
  i55 := by kernel_rfl
  t59 := Tryz.underlying248
  a59 := Tryz.isAgg248
  z59 := Tryz.sizeOf248
  v59 := Tryz.zeroValue248
  i59 := by kernel_rfl
  t60 := Tryz.underlying162
  a60 := Tryz.isAgg162
  z60 := Tryz.sizeOf162
  v60 := Tryz.zeroValue162
  i60 := by kernel_rfl
  t61 := Tryz.underlying249
  a61 := Tryz.isAgg249
  z61 := Tryz.sizeOf249
  t65 := Tryz.underlying262
  a65 := Tryz.isAgg262
  z65 := Tryz.sizeOf262
  v65 := Tryz.zeroValue262
  i65 := by kernel_rfl
  t66 := Tryz.underlying263
  a66 := Tryz.isAgg263
  z66 := Tryz.sizeOf263
  v66 := Tryz.zeroValue263
  i66 := by kernel_rfl
  t67 := Tryz.underlying198
  a67 := Tryz.isAgg198
  z67 := Tryz.sizeOf198
  v67 := Tryz.zeroValue198
  i67 := by kernel_rfl
  g0 := by kernel_rfl
  m0 := by kernel_rfl
  g1 := by kernel_rfl
  m1 := by kernel_rfl
  g2 := by kernel_rfl
  m2 := by kernel_rfl
  g3 := by kernel_rfl
  m3 := by kernel_rfl
  g4 := by kernel_rfl
  m4 := by kernel_rfl }
open Go.RowKit in
/-- strconv.ParseUint(s, 10, 32), AT EVERY STRING THAT SPELLS A uint32 ('Lib.parseUintB 32 s.data.toList = .ok u'): u, AND NO ERROR. (LAID: no walk: one application.) -/
theorem Tryz.strconv_ParseUint_10_at32_ok (s : ByteArray) (hmax : s.size ≤ 9223372036854775806) (u : Nat) (h : Lib.parseUintB 32 s.data.toList = .ok u) (w : World) :
    Calls Tryz.prog 138 #[.string s, .int .i64 10, .int .i64 32] w fun e w' => e = .returned (.tuple #[.int .u64 u, .nilIface]) ∧ (w' = w ∨ w' = Lib.bytesWorld w 5 s) := Any.strconv_ParseUint_10_at32_ok Tryz.laysPu14 s hmax u h w
open Go.RowKit in
/-- strconv.ParseUint(s, 10, 32), AT EVERY NUMERAL THAT NO uint32 HOLDS: THE GREATEST uint32, AND AN ERROR THAT IS NOT nil: a *NumError in a new block N: {Func: "ParseUint", Num: s's bytes, Err: what the variable ErrRange holds}. Of what was there nothing has turned. (LAID: no walk: one application.) -/
theorem Tryz.strconv_ParseUint_10_at32_range (s : ByteArray) (hlim : s.size ≤ 281474976710656) (h : Lib.parseUintB 32 s.data.toList = .range) (ev : Value) (w : World) (hv : w.cell? ⟨3, 0, none⟩ = some ev) (hev : ev = .nilIface ∨ ∃ te pe, ev = .iface te pe) :
    Calls Tryz.prog 138 #[.string s, .int .i64 10, .int .i64 32] w fun e w' => ∃ N, e = .returned (.tuple #[.int .u64 4294967295, .iface 222 (.pointer (some ⟨N, 0, none⟩))]) ∧ w.heap.size ≤ N ∧ w'.heap[N]? = some (.cells #[.string ⟨#[80, 97, 114, 115, 101, 85, 105, 110, 116]⟩, .string s, ev] 245 (0, 0)) ∧ Below w.heap.size w w' := Any.strconv_ParseUint_10_at32_range Tryz.laysPu14 s hlim h ev w hv hev
def Tryz.lays146_ren : Go.Shelf.Ren := ⟨fun | 146 => 137 | 221 => 161 | 268 => 178 | 138 => 179 | 143 => 180 | 195 => 129 | 197 => 203 | 218 => 204 | 219 => 205 | 260 => 219 | 217 => 216 | 225 => 198 | 224 => 197 | 267 => 220 | 266 => 225 | 314 => 226 | n => n, fun | 9 => 9 | 31 => 167 | 3 => 3 | 4 => 4 | 0 => 0 | 105 => 241 | 21 => 21 | 5 => 5 | 46 => 163 | 119 => 211 | 139 => 214 | 138 => 213 | 146 => 259 | 51 => 162 | n => n, fun | 1 => 5 | 3 => 0 | 4 => 1 | n => n⟩
theorem Tryz.lays146 : Go.Proofs.Lays.n146 Tryz.prog Tryz.lays146_ren := {
  mixed := by kernel_rfl
  f138 := Tryz.func179.trans (congrArg some (by kernel_rfl))
  f143 := Tryz.func180.trans (congrArg some (by kernel_rfl))
  f146 := Tryz.func137.trans (congrArg some (by kernel_rfl))
  f195 := Tryz.func129.trans (congrArg some (by kernel_rfl))
  f197 := Tryz.func203.trans (congrArg some (by kernel_rfl))
  f217 := Tryz.func216.trans (congrArg some (by kernel_rfl))
  f218 := Tryz.func204.trans (congrArg some (by kernel_rfl))
  f219 := Tryz.func205.trans (congrArg some (by kernel_rfl))
  f221 := Tryz.func161.trans (congrArg some (by kernel_rfl))
  f224 := Tryz.func197.trans (congrArg some (by kernel_rfl))
  f225 := Tryz.func198.trans (congrArg some (by kernel_rfl))
  f260 := Tryz.func219.trans (congrArg some (by kernel_rfl))
  f266 := Tryz.func225.trans (congrArg some (by kernel_rfl))
  f267 := Tryz.func220.trans (congrArg some (by kernel_rfl))
  f268 := Tryz.func178.trans (congrArg some (by kernel_rfl))
  f314 := Tryz.func226.trans (congrArg some (by kernel_rfl))
  t0 := Tryz.underlying0
  a0 := Tryz.isAgg0
  z0 := Tryz.sizeOf0
  v0 := Tryz.zeroValue0
  t3 := Tryz.underlying3
  a3 := Tryz.isAgg3
  z3 := Tryz.sizeOf3
  v3 := Tryz.zeroValue3
  t4 := Tryz.underlying4
  a4 := Tryz.isAgg4
  z4 := Tryz.sizeOf4
  v4 := Tryz.zeroValue4
  t5 := Tryz.underlying5
  a5 := Tryz.isAgg5
  z5 := Tryz.sizeOf5
  v5 := Tryz.zeroValue5
  t9 := Tryz.underlying9
  a9 := Tryz.isAgg9
  z9 := Tryz.sizeOf9
  v9 := Tryz.zeroValue9
  t21 := Tryz.underlying21
  a21 := Tryz.isAgg21
  z21 := Tryz.sizeOf21
  v21 := Tryz.zeroValue21
  t31 := Tryz.underlying167
  a31 := Tryz.isAgg167
  z31 := Tryz.sizeOf167
  v31 := Tryz.zeroValue167
  t46 := Tryz.underlying163
  a46 := Tryz.isAgg163
  z46 := Tryz.sizeOf163
  v46 := Tryz.zeroValue163
  t51 := Tryz.underlying162
  a51 := Tryz.isAgg162
  z51 := Tryz.sizeOf162
  v51 := Tryz.zeroValue162
  t105 := Tryz.underlying241
  a105 := Tryz.isAgg241
  z105 := Tryz.sizeOf241
  v105 := Tryz.zeroValue241
  t119 := Tryz.underlying211
  a119 := Tryz.isAgg211
  z119 := Tryz.sizeOf211
  t138 := Tryz.underlying213
  a138 := Tryz.isAgg213
  z138 := Tryz.sizeOf213
  v138 := Tryz.zeroValue213
  t139 := Tryz.underlying214
  a139 := Tryz.isAgg214
  z139 := Tryz.sizeOf214
  v139 := Tryz.zeroValue214
  t146 := Tryz.underlying259
  a146 := Tryz.isAgg259
  z146 := Tryz.sizeOf259
  v146 := Tryz.zeroValue259
  g1 := by kernel_rfl
  g3 := by kernel_rfl
  g4 := by kernel_rfl }
open Go.RowKit Go.Lib in
/-- strings.Split. (LAID: no walk: one application.) -/
theorem Tryz.strings_Split (s sep : ByteArray) (m : Int) (w : World) (hs : s.size < 4294967281) (hm : w.cell? ⟨5, 0, none⟩ = some (.int .i64 m)) (h1 : 1 ≤ sep.size) :
    Calls Tryz.prog 137 #[.string s, .string sep] w fun e w' =>
      e = .returned (.slice (some ⟨w.heap.size, 0, none⟩) (Lib.countB s sep + 1) (Lib.countB s sep + 1)) ∧ w' = w.alloc (.cells ((Lib.splitB sep 0 (Lib.countB s sep) s).map Value.string).toArray 9) := Any.strings_Split Tryz.lays146 (by kernel_rfl) s sep m w hs hm h1
def Tryz.lays151_ren : Go.Shelf.Ren := ⟨fun | 151 => 151 | 152 => 172 | 137 => 196 | 119 => 154 | 224 => 197 | 225 => 198 | 217 => 216 | 266 => 225 | n => n, fun | 9 => 9 | 21 => 21 | 4 => 4 | 3 => 3 | 5 => 5 | 0 => 0 | 46 => 163 | n => n, fun | n => n⟩
theorem Tryz.lays151 : Go.Proofs.Lays.n151 Tryz.prog Tryz.lays151_ren := {
  mixed := by kernel_rfl
  f119 := Tryz.func154.trans (congrArg some (by kernel_rfl))
  f137 := Tryz.func196.trans (congrArg some (by kernel_rfl))
  f151 := Tryz.func151.trans (congrArg some (by kernel_rfl))
  f152 := Tryz.func172.trans (congrArg some (by kernel_rfl))
  f217 := Tryz.func216.trans (congrArg some (by kernel_rfl))
  f224 := Tryz.func197.trans (congrArg some (by kernel_rfl))
  f225 := Tryz.func198.trans (congrArg some (by kernel_rfl))
  f266 := Tryz.func225.trans (congrArg some (by kernel_rfl))
  t0 := Tryz.underlying0
  a0 := Tryz.isAgg0
  z0 := Tryz.sizeOf0
  v0 := Tryz.zeroValue0
  t3 := Tryz.underlying3
  a3 := Tryz.isAgg3
  z3 := Tryz.sizeOf3
  v3 := Tryz.zeroValue3
  t4 := Tryz.underlying4
  a4 := Tryz.isAgg4
  z4 := Tryz.sizeOf4
  v4 := Tryz.zeroValue4
  t5 := Tryz.underlying5
  a5 := Tryz.isAgg5
  z5 := Tryz.sizeOf5
  v5 := Tryz.zeroValue5
  t9 := Tryz.underlying9
  a9 := Tryz.isAgg9
  z9 := Tryz.sizeOf9
  v9 := Tryz.zeroValue9
  t21 := Tryz.underlying21
  a21 := Tryz.isAgg21
  z21 := Tryz.sizeOf21
  v21 := Tryz.zeroValue21
  t46 := Tryz.underlying163
  a46 := Tryz.isAgg163
  z46 := Tryz.sizeOf163
  v46 := Tryz.zeroValue163 }
open Go.RowKit Go.Lib in
theorem Tryz.strings_ContainsRune_ascii (s : ByteArray) (r : Int) (w : World) (h0 : 0 ≤ r) (h1 : r < 128) :
    Calls Tryz.prog 151 #[.string s, .int .i32 r] w fun e w' => e = .returned (.bool (decide (0 ≤ Lib.indexByte s.data.toList r.toNat.toUInt8))) ∧ w' = w := Any.strings_ContainsRune_ascii Tryz.lays151 s r w h0 h1
end Go.Proofs
end
