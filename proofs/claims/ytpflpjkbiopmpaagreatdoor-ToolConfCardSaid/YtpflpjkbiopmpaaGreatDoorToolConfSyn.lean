/-
  ToolConf: what its row's list of variables tells of strconv.ErrSyntax.
-/
import Derived.Test.YtpflpjkbiopmpaaGreatDoorQLaid
import Derived.Test.YtpflpjkbiopmpaaGreatDoorQLow
import Derived.Stop.LaidErr
import Derived.Test.YtpflpjkbiopmpaaGreatDoorQOrc
import Derived.Lib.LaidTab
set_option linter.unusedVariables false
set_option linter.unusedSimpArgs false
set_option linter.unnecessarySimpa false
set_option linter.all false
namespace Go.Proofs.YtpflpjkbiopmpaaGreatDoor.toolConf
open Go.ChangeShapes Go.WideShapes Go.ChangeAt Go.RowKit Go.Lib
theorem gES : Tryz.prog.globalNamed "strconv.ErrSyntax" = some 6 := by kernel_rfl
theorem gESType : (Tryz.prog.globals[6]?).map (·.type) = some 44 := by kernel_rfl
theorem cellsE : Tryz.prog.cellsOf 363 = 1 := by kernel_rfl
theorem cellsS : Tryz.prog.cellsOf 9 = 1 := by kernel_rfl
theorem star : "*" ++ "errors.errorString" = "*errors.errorString" := by decide
theorem rowE (u : TypeId) (h : Tryz.prog.typeName? 3 u = some "*errors.errorString") : u = 361 :=
  typeName_ptr_named (nm := "errors.errorString") (by rw [star]; kernel_rfl) (by kernel_rfl) (by decide) u (by rw [star]; exact h)
theorem syn_known {W : World} (hL : laidMetH Tryz.prog Rows.toolConfRow.laid W) : ∃ ev, W.cell? ⟨6, 0, none⟩ = some ev ∧ (ev = .nilIface ∨ ∃ te pe, ev = .iface te pe) := by
  have hL' : laidMet Tryz.prog Rows.toolConfRow.laid W := hL
  obtain ⟨a0, s0, hv0, -, -, -⟩ := laid_sentinel hL'.tail.tail.tail.tail.tail gES gESType Tryz.underlying44 rowE Tryz.underlying361 Tryz.underlying363 rfl rfl Tryz.underlying9 cellsE cellsS
  exact ⟨_, by have h0 := World.var?_cell gES hv0 0; simpa using h0, .inr ⟨_, _, rfl⟩⟩
theorem powData : (Rows.laid_internal_strconv_uint64pow10 : DataW Unit) = Lib.tabData .u64 Lib.pow10Tab := by kernel_rfl
theorem pow_of {W : World} (hL : laidMetH Tryz.prog Rows.toolConfRow.laid W) : Pow W := by
  have hL' : laidMet Tryz.prog Rows.toolConfRow.laid W := hL
  have h3 : laidMet Tryz.prog (("internal/strconv.uint64pow10", Rows.laid_internal_strconv_uint64pow10) :: _) W := hL'.tail.tail
  rw [powData] at h3
  exact Lib.tabIs_of_head gPow (show (Tryz.prog.globals[0]?).map (·.type) = some 214 by kernel_rfl) (show Tryz.prog.underlying 214 = some (.array 20 165) by kernel_rfl) (show Tryz.prog.underlying 165 = some (.int .u64) by kernel_rfl) (show Tryz.prog.cellsOf 165 = 1 by kernel_rfl) (show Tryz.prog.cellsOf 214 = 20 by kernel_rfl) h3
end Go.Proofs.YtpflpjkbiopmpaaGreatDoor.toolConf
