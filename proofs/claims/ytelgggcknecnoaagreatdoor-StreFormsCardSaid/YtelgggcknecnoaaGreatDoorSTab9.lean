/-
  Functions of the program in the small language, written by a program of mine: part 9.
-/
import Derived.Test.YtelgggcknecnoaaGreatDoorEvY
import Derived.Test.YtelgggcknecnoaaGreatDoorChecked
set_option linter.unusedVariables false
set_option linter.unusedSimpArgs false
set_option linter.unnecessarySimpa false
set_option linter.all false
namespace Go.Proofs.YtelgggcknecnoaaGreatDoor
open Go Ev
set_option maxRecDepth 100000
def tab9 : List (Nat × F) := []
theorem tabOK9 : TabOK Tryz.prog tab9 := trivial
end Go.Proofs.YtelgggcknecnoaaGreatDoor
