/-
  FlatForms' row: its closed facts, each one a declaration of its own.
-/
import Derived.Test.YtefehpoghhpjhaaGreatDoorFlatLaid
import Derived.JoinedCond
set_option linter.unusedVariables false
set_option linter.unusedSimpArgs false
set_option linter.unnecessarySimpa false
set_option linter.all false
namespace Go.Proofs.YtefehpoghhpjhaaGreatDoor.flatForms
open Go.ChangeShapes Go.WideShapes Go.ChangeAt Go.RowKit Go.Lib

set_option maxRecDepth 100000 in
set_option maxHeartbeats 100000000 in
theorem facts : joinedFacts Tryz.prog 3 Tryz.f3 (OpenSpec.ofChange Rows.flatFormsSpec).bare Rows.flatFormsRow = true := by
  unfold joinedFacts
  simp only [Bool.and_eq_true]
  repeat' apply And.intro
  all_goals (as_aux_lemma => kernel_rfl)
theorem named : Tryz.prog.funcNamed "bosket/bosketlaw24.FlatForms" = some 3 := by kernel_rfl
end Go.Proofs.YtefehpoghhpjhaaGreatDoor.flatForms
