/-
  ConfBounds, run: part 0.
-/
import Derived.Test.YtkpclmpikhgbpaaGreatDoorBRun
set_option linter.unusedVariables false
set_option linter.unusedSimpArgs false
set_option linter.unnecessarySimpa false
set_option linter.all false
namespace Go.Proofs.YtkpclmpikhgbpaaGreatDoor
theorem r_c01 : clsT 0 1 = true := by decide +kernel
theorem r_c02 : clsT 0 2 = true := by decide +kernel
theorem r_c03 : clsT 0 3 = true := by decide +kernel
theorem r_c04 : clsT 0 4 = true := by decide +kernel
theorem r_c11 : clsT 1 1 = true := by decide +kernel
theorem r_c21 : clsT 2 1 = true := by decide +kernel
end Go.Proofs.YtkpclmpikhgbpaaGreatDoor
