/-
  ConfWrong at some of its inputs, run: part 1.
-/
import Derived.Test.YtegaanndakpdmaaGreatDoorConfWrongRun
set_option linter.unusedVariables false
set_option linter.unusedSimpArgs false
set_option linter.unnecessarySimpa false
set_option linter.all false
namespace Go.Proofs.YtegaanndakpdmaaGreatDoor
open Go.RowKit Ev
theorem confWrong4_0 : ConfWrongRuns 4 0 := by unfold ConfWrongRuns; decide +kernel
theorem confWrong4_1 : ConfWrongRuns 4 1 := by unfold ConfWrongRuns; decide +kernel
theorem confWrong4_2 : ConfWrongRuns 4 2 := by unfold ConfWrongRuns; decide +kernel
theorem confWrong5_0 : ConfWrongRuns 5 0 := by unfold ConfWrongRuns; decide +kernel
theorem confWrong5_1 : ConfWrongRuns 5 1 := by unfold ConfWrongRuns; decide +kernel
theorem confWrong5_2 : ConfWrongRuns 5 2 := by unfold ConfWrongRuns; decide +kernel
theorem confWrong6_0 : ConfWrongRuns 6 0 := by unfold ConfWrongRuns; decide +kernel
theorem confWrong6_1 : ConfWrongRuns 6 1 := by unfold ConfWrongRuns; decide +kernel
theorem confWrong6_2 : ConfWrongRuns 6 2 := by unfold ConfWrongRuns; decide +kernel
theorem confWrong7_0 : ConfWrongRuns 7 0 := by unfold ConfWrongRuns; decide +kernel
theorem confWrong7_1 : ConfWrongRuns 7 1 := by unfold ConfWrongRuns; decide +kernel
theorem confWrong7_2 : ConfWrongRuns 7 2 := by unfold ConfWrongRuns; decide +kernel
end Go.Proofs.YtegaanndakpdmaaGreatDoor
