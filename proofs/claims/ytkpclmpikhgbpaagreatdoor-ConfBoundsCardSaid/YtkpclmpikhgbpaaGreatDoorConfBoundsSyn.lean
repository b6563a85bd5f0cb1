/-
  ConfBounds: what its row's list of variables tells of strconv.ErrSyntax.
-/
import Derived.Test.YtkpclmpikhgbpaaGreatDoorBLaid
import Derived.Test.YtkpclmpikhgbpaaGreatDoorBLow
import Derived.Stop.LaidErr
set_option linter.unusedVariables false
set_option linter.unusedSimpArgs false
set_option linter.unnecessarySimpa false
set_option linter.all false
namespace Go.Proofs.YtkpclmpikhgbpaaGreatDoor.confBounds
open Go.ChangeShapes Go.WideShapes Go.ChangeAt Go.RowKit Go.Lib
theorem gES : Tryz.prog.globalNamed "strconv.ErrSyntax" = some 3 := by kernel_rfl
theorem gESType : (Tryz.prog.globals[3]?).map (·.type) = some 100 := by kernel_rfl
theorem cellsE : Tryz.prog.cellsOf 220 = 1 := by kernel_rfl
theorem cellsS : Tryz.prog.cellsOf 9 = 1 := by kernel_rfl
theorem star : "*" ++ "errors.errorString" = "*errors.errorString" := by decide
theorem rowE (u : TypeId) (h : Tryz.prog.typeName? 3 u = some "*errors.errorString") : u = 218 :=
  typeName_ptr_named (nm := "errors.errorString") (by rw [star]; kernel_rfl) (by kernel_rfl) (by decide) u (by rw [star]; exact h)
theorem syn_known {W : World} (hL : laidMetH Tryz.prog Rows.confBoundsRow.laid W) : ∃ ev, W.cell? ⟨3, 0, none⟩ = some ev ∧ (ev = .nilIface ∨ ∃ te pe, ev = .iface te pe) := by
  have hL' : laidMet Tryz.prog Rows.confBoundsRow.laid W := hL
  obtain ⟨a0, s0, hv0, -, -, -⟩ := laid_sentinel hL'.tail.tail.tail.tail.tail gES gESType Tryz.underlying100 rowE Tryz.underlying218 Tryz.underlying220 rfl rfl Tryz.underlying9 cellsE cellsS
  exact ⟨_, by have h0 := World.var?_cell gES hv0 0; simpa using h0, .inr ⟨_, _, rfl⟩⟩
end Go.Proofs.YtkpclmpikhgbpaaGreatDoor.confBounds
