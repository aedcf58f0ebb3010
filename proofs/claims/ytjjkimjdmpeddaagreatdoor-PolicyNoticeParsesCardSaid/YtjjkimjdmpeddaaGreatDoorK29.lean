/- The parts ShelfR of one proof, one behind the other. -/
import Derived.Shelf.Strings.BuilderRune
import Derived.Test.YtjjkimjdmpeddaaGreatDoorProg

/- (*strings.Builder).WriteRune out of the kit's shelf, laid by hand (the type of the panic's value is named by no body here). -/
section
set_option linter.unusedSimpArgs false
set_option linter.unusedVariables false
namespace Go.Proofs
open Go.Shelf
def Tryz.lays168_ren : Go.Shelf.Ren := ⟨fun | 168 => 158 | 240 => 175 | 242 => 176 | 276 => 199 | 278 => 200 | n => n, fun | 0 => 0 | 3 => 3 | 4 => 4 | 5 => 5 | 9 => 9 | 20 => 20 | 21 => 21 | 37 => 32 | 46 => 163 | 51 => 162 | 70 => 190 | 72 => 192 | 75 => 170 | 80 => 198 | 164 => 239 | n => n, fun | n => n⟩
theorem Tryz.lays168 : Go.Proofs.Lays.n168 Tryz.prog Tryz.lays168_ren := {
  mixed := by kernel_rfl
  f168 := Tryz.func158.trans (congrArg some (by kernel_rfl))
  f240 := Tryz.func175.trans (congrArg some (by kernel_rfl))
  f242 := Tryz.func176.trans (congrArg some (by kernel_rfl))
  f276 := Tryz.func199.trans (congrArg some (by kernel_rfl))
  f278 := Tryz.func200.trans (congrArg some (by kernel_rfl))
  t0 := Tryz.underlying0
  a0 := Tryz.isAgg0
  z0 := Tryz.sizeOf0
  v0 := Tryz.zeroValue0
  t3 := Tryz.underlying3
  a3 := Tryz.isAgg3
  z3 := Tryz.sizeOf3
  v3 := Tryz.zeroValue3
  t4 := Tryz.underlying4
  a4 := Tryz.isAgg4
  z4 := Tryz.sizeOf4
  v4 := Tryz.zeroValue4
  t5 := Tryz.underlying5
  a5 := Tryz.isAgg5
  z5 := Tryz.sizeOf5
  v5 := Tryz.zeroValue5
  t9 := Tryz.underlying9
  a9 := Tryz.isAgg9
  z9 := Tryz.sizeOf9
  v9 := Tryz.zeroValue9
  t20 := Tryz.underlying20
  a20 := Tryz.isAgg20
  z20 := Tryz.sizeOf20
  v20 := Tryz.zeroValue20
  t21 := Tryz.underlying21
  a21 := Tryz.isAgg21
  z21 := Tryz.sizeOf21
  v21 := Tryz.zeroValue21
  t37 := Tryz.underlying32
  a37 := Tryz.isAgg32
  z37 := Tryz.sizeOf32
  v37 := Tryz.zeroValue32
  t46 := Tryz.underlying163
  a46 := Tryz.isAgg163
  z46 := Tryz.sizeOf163
  v46 := Tryz.zeroValue163
  t51 := Tryz.underlying162
  a51 := Tryz.isAgg162
  z51 := Tryz.sizeOf162
  v51 := Tryz.zeroValue162
  t70 := Tryz.underlying190
  a70 := Tryz.isAgg190
  z70 := Tryz.sizeOf190
  v70 := Tryz.zeroValue190
  t72 := Tryz.underlying192
  a72 := Tryz.isAgg192
  z72 := Tryz.sizeOf192
  v72 := Tryz.zeroValue192
  t75 := Tryz.underlying170
  a75 := Tryz.isAgg170
  z75 := Tryz.sizeOf170
  v75 := Tryz.zeroValue170
  t164 := Tryz.underlying239
  a164 := Tryz.isAgg239
  z164 := Tryz.sizeOf239
  v164 := Tryz.zeroValue239 }
theorem Tryz.Builder_Extra_168 : Builder.Extra Tryz.prog Tryz.lays168_ren := {
  sizeBuilder := by kernel_rfl
  liesBuilder := by kernel_rfl
  t5 := Tryz.underlying5
  a5 := Tryz.isAgg5
  z5 := Tryz.sizeOf5
  v5 := Tryz.zeroValue5
  infoByte := by kernel_rfl
  cellsByte := by kernel_rfl
  sizeByte := by kernel_rfl
  neB5 := by decide }
open Go.RowKit in
theorem Tryz.Builder_WriteRune_k (B b : Nat) (bs : List Value) (r : Int) (hr0 : -2147483648 ≤ r) (hr1 : r ≤ 2147483647) (w : World) (h : Lib.IsBuilderF 192 5 B b bs w) (hlen : bs.length + 4 ≤ 140737488355328) (hBw : B ≤ w.heap.size) :
    Calls Tryz.prog 158 #[.pointer (some ⟨b, 0, none⟩), .int .i32 r] w fun e w' => e = .returned (.tuple #[.int .i64 (Lib.runeCells r).length, .nilIface]) ∧ (Lib.BuilderAtF 192 5 B b (.pointer (some ⟨b, 0, none⟩)) (bs ++ Lib.runeCells r) w' ∧ Below B w w' ∧ Lib.OthersKept 5 (some b) w w') :=
  Any.Builder_WriteRune_k Tryz.lays168 Tryz.Builder_Extra_168 B b bs r hr0 hr1 w h hlen hBw
end Go.Proofs
end
