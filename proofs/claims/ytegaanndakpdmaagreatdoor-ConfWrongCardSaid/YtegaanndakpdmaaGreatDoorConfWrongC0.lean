/-
  ConfWrong at some of its inputs, run: part 0.
-/
import Derived.Test.YtegaanndakpdmaaGreatDoorConfWrongRun
set_option linter.unusedVariables false
set_option linter.unusedSimpArgs false
set_option linter.unnecessarySimpa false
set_option linter.all false
namespace Go.Proofs.YtegaanndakpdmaaGreatDoor
open Go.RowKit Ev
theorem confWrong0_0 : ConfWrongRuns 0 0 := by unfold ConfWrongRuns; decide +kernel
theorem confWrong0_1 : ConfWrongRuns 0 1 := by unfold ConfWrongRuns; decide +kernel
theorem confWrong0_2 : ConfWrongRuns 0 2 := by unfold ConfWrongRuns; decide +kernel
theorem confWrong1_0 : ConfWrongRuns 1 0 := by unfold ConfWrongRuns; decide +kernel
theorem confWrong1_1 : ConfWrongRuns 1 1 := by unfold ConfWrongRuns; decide +kernel
theorem confWrong1_2 : ConfWrongRuns 1 2 := by unfold ConfWrongRuns; decide +kernel
theorem confWrong2_0 : ConfWrongRuns 2 0 := by unfold ConfWrongRuns; decide +kernel
theorem confWrong2_1 : ConfWrongRuns 2 1 := by unfold ConfWrongRuns; decide +kernel
theorem confWrong2_2 : ConfWrongRuns 2 2 := by unfold ConfWrongRuns; decide +kernel
theorem confWrong3_0 : ConfWrongRuns 3 0 := by unfold ConfWrongRuns; decide +kernel
theorem confWrong3_1 : ConfWrongRuns 3 1 := by unfold ConfWrongRuns; decide +kernel
theorem confWrong3_2 : ConfWrongRuns 3 2 := by unfold ConfWrongRuns; decide +kernel
end Go.Proofs.YtegaanndakpdmaaGreatDoor
