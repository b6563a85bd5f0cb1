/-
  ConfWrong at some of its inputs, run: part 3.
-/
import Derived.Test.YtegaanndakpdmaaGreatDoorConfWrongRun
set_option linter.unusedVariables false
set_option linter.unusedSimpArgs false
set_option linter.unnecessarySimpa false
set_option linter.all false
namespace Go.Proofs.YtegaanndakpdmaaGreatDoor
open Go.RowKit Ev
theorem confWrong12_0 : ConfWrongRuns 12 0 := by unfold ConfWrongRuns; decide +kernel
theorem confWrong12_1 : ConfWrongRuns 12 1 := by unfold ConfWrongRuns; decide +kernel
theorem confWrong12_2 : ConfWrongRuns 12 2 := by unfold ConfWrongRuns; decide +kernel
theorem confWrong13_0 : ConfWrongRuns 13 0 := by unfold ConfWrongRuns; decide +kernel
theorem confWrong13_1 : ConfWrongRuns 13 1 := by unfold ConfWrongRuns; decide +kernel
theorem confWrong13_2 : ConfWrongRuns 13 2 := by unfold ConfWrongRuns; decide +kernel
end Go.Proofs.YtegaanndakpdmaaGreatDoor
