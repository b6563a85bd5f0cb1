/-
  TreeBeside at some of its inputs, run: part 3.
-/
import Derived.Test.YtkhikbkgiachkaaGreatDoorTreeBesideRun
set_option linter.unusedVariables false
set_option linter.unusedSimpArgs false
set_option linter.unnecessarySimpa false
set_option linter.all false
namespace Go.Proofs.YtkhikbkgiachkaaGreatDoor
open Go.RowKit Ev
theorem treeBeside3_0_0_f : TreeBesideRuns 3 0 0 false := by unfold TreeBesideRuns; decide +kernel
theorem treeBeside3_0_0_t : TreeBesideRuns 3 0 0 true := by unfold TreeBesideRuns; decide +kernel
theorem treeBeside3_0_1_f : TreeBesideRuns 3 0 1 false := by unfold TreeBesideRuns; decide +kernel
theorem treeBeside3_0_1_t : TreeBesideRuns 3 0 1 true := by unfold TreeBesideRuns; decide +kernel
theorem treeBeside3_0_2_f : TreeBesideRuns 3 0 2 false := by unfold TreeBesideRuns; decide +kernel
theorem treeBeside3_0_2_t : TreeBesideRuns 3 0 2 true := by unfold TreeBesideRuns; decide +kernel
theorem treeBeside3_1_0_f : TreeBesideRuns 3 1 0 false := by unfold TreeBesideRuns; decide +kernel
theorem treeBeside3_1_0_t : TreeBesideRuns 3 1 0 true := by unfold TreeBesideRuns; decide +kernel
theorem treeBeside3_1_1_f : TreeBesideRuns 3 1 1 false := by unfold TreeBesideRuns; decide +kernel
theorem treeBeside3_1_1_t : TreeBesideRuns 3 1 1 true := by unfold TreeBesideRuns; decide +kernel
theorem treeBeside3_1_2_f : TreeBesideRuns 3 1 2 false := by unfold TreeBesideRuns; decide +kernel
theorem treeBeside3_1_2_t : TreeBesideRuns 3 1 2 true := by unfold TreeBesideRuns; decide +kernel
theorem treeBeside3_2_0_f : TreeBesideRuns 3 2 0 false := by unfold TreeBesideRuns; decide +kernel
theorem treeBeside3_2_0_t : TreeBesideRuns 3 2 0 true := by unfold TreeBesideRuns; decide +kernel
theorem treeBeside3_2_1_f : TreeBesideRuns 3 2 1 false := by unfold TreeBesideRuns; decide +kernel
theorem treeBeside3_2_1_t : TreeBesideRuns 3 2 1 true := by unfold TreeBesideRuns; decide +kernel
theorem treeBeside3_2_2_f : TreeBesideRuns 3 2 2 false := by unfold TreeBesideRuns; decide +kernel
theorem treeBeside3_2_2_t : TreeBesideRuns 3 2 2 true := by unfold TreeBesideRuns; decide +kernel
theorem treeBeside3_3_0_f : TreeBesideRuns 3 3 0 false := by unfold TreeBesideRuns; decide +kernel
theorem treeBeside3_3_0_t : TreeBesideRuns 3 3 0 true := by unfold TreeBesideRuns; decide +kernel
theorem treeBeside3_3_1_f : TreeBesideRuns 3 3 1 false := by unfold TreeBesideRuns; decide +kernel
theorem treeBeside3_3_1_t : TreeBesideRuns 3 3 1 true := by unfold TreeBesideRuns; decide +kernel
theorem treeBeside3_3_2_f : TreeBesideRuns 3 3 2 false := by unfold TreeBesideRuns; decide +kernel
theorem treeBeside3_3_2_t : TreeBesideRuns 3 3 2 true := by unfold TreeBesideRuns; decide +kernel
end Go.Proofs.YtkhikbkgiachkaaGreatDoor
