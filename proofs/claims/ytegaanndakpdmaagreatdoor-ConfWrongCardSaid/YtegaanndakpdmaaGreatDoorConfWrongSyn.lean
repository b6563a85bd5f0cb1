/-
  ConfWrong: what its row's list of variables tells of strconv.ErrSyntax.
-/
import Derived.Test.YtegaanndakpdmaaGreatDoorCFLaid
import Derived.Test.YtegaanndakpdmaaGreatDoorCFLow
import Derived.Stop.LaidErr
set_option linter.unusedVariables false
set_option linter.unusedSimpArgs false
set_option linter.unnecessarySimpa false
set_option linter.all false
namespace Go.Proofs.YtegaanndakpdmaaGreatDoor.confWrong
open Go.ChangeShapes Go.WideShapes Go.ChangeAt Go.RowKit Go.Lib
theorem gES : Tryz.prog.globalNamed "strconv.ErrSyntax" = some 3 := by kernel_rfl
theorem gESType : (Tryz.prog.globals[3]?).map (·.type) = some 101 := by kernel_rfl
theorem cellsE : Tryz.prog.cellsOf 221 = 1 := by kernel_rfl
theorem cellsS : Tryz.prog.cellsOf 9 = 1 := by kernel_rfl
theorem star : "*" ++ "errors.errorString" = "*errors.errorString" := by decide
theorem rowE (u : TypeId) (h : Tryz.prog.typeName? 3 u = some "*errors.errorString") : u = 219 :=
  typeName_ptr_named (nm := "errors.errorString") (by rw [star]; kernel_rfl) (by kernel_rfl) (by decide) u (by rw [star]; exact h)
theorem syn_known {W : World} (hL : laidMetH Tryz.prog Rows.confWrongRow.laid W) : ∃ ev, W.cell? ⟨3, 0, none⟩ = some ev ∧ (ev = .nilIface ∨ ∃ te pe, ev = .iface te pe) := by
  have hL' : laidMet Tryz.prog Rows.confWrongRow.laid W := hL
  obtain ⟨a0, s0, hv0, -, -, -⟩ := laid_sentinel hL'.tail.tail.tail.tail.tail gES gESType Tryz.underlying101 rowE Tryz.underlying219 Tryz.underlying221 rfl rfl Tryz.underlying9 cellsE cellsS
  exact ⟨_, by have h0 := World.var?_cell gES hv0 0; simpa using h0, .inr ⟨_, _, rfl⟩⟩
end Go.Proofs.YtegaanndakpdmaaGreatDoor.confWrong
