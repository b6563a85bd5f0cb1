/-
  ConfWrong at some of its inputs, run: part 2.
-/
import Derived.Test.YtegaanndakpdmaaGreatDoorConfWrongRun
set_option linter.unusedVariables false
set_option linter.unusedSimpArgs false
set_option linter.unnecessarySimpa false
set_option linter.all false
namespace Go.Proofs.YtegaanndakpdmaaGreatDoor
open Go.RowKit Ev
theorem confWrong8_0 : ConfWrongRuns 8 0 := by unfold ConfWrongRuns; decide +kernel
theorem confWrong8_1 : ConfWrongRuns 8 1 := by unfold ConfWrongRuns; decide +kernel
theorem confWrong8_2 : ConfWrongRuns 8 2 := by unfold ConfWrongRuns; decide +kernel
theorem confWrong9_0 : ConfWrongRuns 9 0 := by unfold ConfWrongRuns; decide +kernel
theorem confWrong9_1 : ConfWrongRuns 9 1 := by unfold ConfWrongRuns; decide +kernel
theorem confWrong9_2 : ConfWrongRuns 9 2 := by unfold ConfWrongRuns; decide +kernel
theorem confWrong10_0 : ConfWrongRuns 10 0 := by unfold ConfWrongRuns; decide +kernel
theorem confWrong10_1 : ConfWrongRuns 10 1 := by unfold ConfWrongRuns; decide +kernel
theorem confWrong10_2 : ConfWrongRuns 10 2 := by unfold ConfWrongRuns; decide +kernel
theorem confWrong11_0 : ConfWrongRuns 11 0 := by unfold ConfWrongRuns; decide +kernel
theorem confWrong11_1 : ConfWrongRuns 11 1 := by unfold ConfWrongRuns; decide +kernel
theorem confWrong11_2 : ConfWrongRuns 11 2 := by unfold ConfWrongRuns; decide +kernel
end Go.Proofs.YtegaanndakpdmaaGreatDoor
