/- The parts GloD of one proof, one behind the other. -/
import Derived.Test.YtlmnmgokfnnbbaaGreatDoorQ34
import Derived.Test.YtlmnmgokfnnbbaaGreatDoorRows
import Derived.Deep.DeepHandedRow
import Derived.Stop.LaidErr
import Derived.Lib.LaidU8T
import Derived.PinnedBridge
import Derived.ProofKit
import Derived.OpenShut
import Derived.LaidMore
import Derived.Lay
import Derived.SizedLaws
import Derived.Shelf.Vars

/- What the calls find of the library's variables, out of the row's own condition; the witness. -/
section
set_option linter.unusedSimpArgs false
set_option linter.unusedVariables false
namespace Go.Proofs.YtlmnmgokfnnbbaaGreatDoor
open Go.RowKit Go.Cr Go.ChangeShapes Go.WideShapes Go.ChangeAt Go.Lib Go.Shelf
theorem lw_own : ownKnob Tryz.prog.godebug = none := by kernel_rfl
theorem lw_laidOut : laidOutB Tryz.prog = true := by kernel_rfl
def laidL : List (String × DataW Unit) := Rows.dnRDNMarshalsRow.laid
theorem errStar : "*" ++ "errors.errorString" = "*errors.errorString" := by decide
theorem errRow (u : TypeId) (h : Tryz.prog.typeName? 3 u = some "*errors.errorString") : u = 267 :=
  typeName_ptr_named (nm := "errors.errorString") (by rw [errStar]; kernel_rfl) (by kernel_rfl) (by decide) u (by rw [errStar]; exact h)

theorem glo_of (W : World) (hL : laidMet Tryz.prog laidL W) (hS : W.ShapedOpen Tryz.prog) : Glo W := by
  obtain ⟨a0, t0, hv0, hc0, _, _⟩ := laid_sentinel (g := 4) hL.tail.tail.tail.tail (by kernel_rfl) (by kernel_rfl) Tryz.underlying107 errRow Tryz.underlying267 Tryz.underlying269 rfl rfl Tryz.underlying9 (by kernel_rfl) (by kernel_rfl)
  obtain ⟨a1, t1, hv1, hc1, _, _⟩ := laid_sentinel (g := 3) hL.tail.tail.tail.tail.tail (by kernel_rfl) (by kernel_rfl) Tryz.underlying107 errRow Tryz.underlying267 Tryz.underlying269 rfl rfl Tryz.underlying9 (by kernel_rfl) (by kernel_rfl)
  have hU : Lib.Utf8Tabs 1 2 W := by
    refine utf8Tabs_of_readsT (ρ := Tryz.laysValid_ren) (U8Types.of196 Tryz.laysValid) ⟨by kernel_rfl, by kernel_rfl, by kernel_rfl, by kernel_rfl, by kernel_rfl, by kernel_rfl, by kernel_rfl⟩ ?_ ?_
    · rw [← Pinned.utf8First_eq]
      exact Lib.laidMet.reads hL (.tail _ (.tail _ (.tail _ (.tail _ (.tail _ (.tail _ (.head _)))))))
    · have e : (Rows.laid_unicode_utf8_acceptRanges : DataW Unit) = acceptData := by kernel_rfl
      rw [← e]
      exact Lib.laidMet.reads hL (.tail _ (.tail _ (.tail _ (.head _))))
  have hP : Lib.TabIs Tryz.prog W "internal/strconv.uint64pow10" .u64 Lib.pow10Tab := by
    have e : (Rows.laid_internal_strconv_uint64pow10 : DataW Unit) = Lib.tabData .u64 Lib.pow10Tab := by kernel_rfl
    have h := hL.tail.tail
    refine Lib.tabIs_of_head (g := 5) (rest := laidL.tail.tail.tail) (by kernel_rfl) (by kernel_rfl) (by kernel_rfl : Tryz.prog.underlying 264 = some (.array 20 148)) Tryz.underlying148 (by kernel_rfl) (by kernel_rfl) ?_
    rw [← e]
    exact h
  have hM : ∃ m, W.cell? ⟨0, 0, none⟩ = some (.int .i64 m) :=
    cell_of_shapedOpen_int (zero := #[.int .i64 0]) (t := 3) hS (of_decide_eq_true (by kernel_rfl)) (by kernel_rfl) rfl (by kernel_rfl) (by kernel_rfl) Tryz.underlying3
  have g0 : Tryz.prog.globalNamed "strconv.ErrRange" = some 4 := by kernel_rfl
  have g1 : Tryz.prog.globalNamed "strconv.ErrSyntax" = some 3 := by kernel_rfl
  refine ⟨hM, ⟨267, .pointer (some a1), ?_⟩, ⟨267, .pointer (some a0), ?_⟩, hP, hU⟩
  · rw [World.var?_cell g1 hv1 0]; rfl
  · rw [World.var?_cell g0 hv0 0]; rfl

noncomputable def laidW (os : Os) : World := World.laidAll Tryz.prog os laidL
theorem laidW_met (os : Os) (args : Array Value) : laidMet Tryz.prog laidL ((laidW os).forCall (fun _ _ => 0) ⟨#[], args, []⟩).memory := laidMet_laidAll args (by kernel_rfl) (by kernel_rfl)
theorem laidW_shaped (os : Os) (args : Array Value) : ((laidW os).forCall (fun _ _ => 0) ⟨#[], args, []⟩).Shaped Tryz.prog := World.shaped_of_ZipB (by kernel_rfl) (by kernel_rfl)
theorem witness_laid {H : Type} {enc : TypeId × Value → H} {os : Os} {f : FuncId} {fn : Func} {s : OpenSpec} {conds : List PathCond} {apart : Bool} {laid : List (String × DataW Unit)} (args : Array Value)
    (hok : Input.okWideB Tryz.checked.prog ((laidW os).forCall (fun _ _ => 0) ⟨#[], args, []⟩) f ⟨#[], args, []⟩ = true)
    (hrow : s.preRow enc Tryz.checked.prog fn conds apart laid ((laidW os).forCall (fun _ _ => 0) ⟨#[], args, []⟩).memory args) :
    ∃ (w : World) (tape : Tape) (i : Input), w.os = os ∧ (w.forCall tape i).Shaped Tryz.checked.prog ∧ i.vars = [] ∧ Input.okWide Tryz.checked.prog (w.forCall tape i) .any w.heap.size f i ∧
      s.preRow enc Tryz.checked.prog fn conds apart laid (w.forCall tape i).memory i.args ∧ ({} : Assume).holds Tryz.checked.prog (lone (Frame.enter Tryz.checked.prog f i.args .normal) [] (w.forCall tape i)) :=
  ⟨laidW os, fun _ _ => 0, ⟨#[], args, []⟩, World.laidAll_os _ _ _, laidW_shaped os args, (Input.okWide_of_okWideB (base := 0) hok).1, (Input.okWide_of_okWideB hok).2, hrow, by
    simp only [Assume.holds]
    exact ⟨by simp, by simp, fun _ => Modest.zero, by simp, by simp⟩⟩
end Go.Proofs.YtlmnmgokfnnbbaaGreatDoor
end
