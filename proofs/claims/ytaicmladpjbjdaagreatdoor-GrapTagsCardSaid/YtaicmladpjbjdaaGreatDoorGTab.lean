/-
  The table of the functions that are run.
-/
import Derived.Test.YtaicmladpjbjdaaGreatDoorGTab0
import Derived.Test.YtaicmladpjbjdaaGreatDoorGTab1
import Derived.Test.YtaicmladpjbjdaaGreatDoorGTab2
import Derived.Test.YtaicmladpjbjdaaGreatDoorGTab3
import Derived.Test.YtaicmladpjbjdaaGreatDoorGTab4
import Derived.Test.YtaicmladpjbjdaaGreatDoorGTab5
set_option linter.unusedVariables false
set_option linter.unusedSimpArgs false
set_option linter.unnecessarySimpa false
set_option linter.all false
namespace Go.Proofs.YtaicmladpjbjdaaGreatDoor
open Go Ev
def dabs : List (Nat × Ev.D) := []
theorem dabsOK : DabOK Tryz.prog dabs := trivial
def tabs : List (Nat × F) := (tab0 ++ (tab1 ++ (tab2 ++ (tab3 ++ (tab4 ++ tab5)))))
theorem tabsOK : TabOK Tryz.prog tabs := (tabOK0.app (tabOK1.app (tabOK2.app (tabOK3.app (tabOK4.app tabOK5)))))
noncomputable def fsT : Nat → Option F := Ev.look tabs
theorem fsT_ok (f : Nat) (g : F) (h : fsT f = some g) : fsOf Tryz.prog f = some g := look_ok tabs tabsOK f g h
noncomputable def dsT : Nat → Option Ev.D := Ev.lookD dabs
theorem dsT_ok (f : Nat) (g : Ev.D) (h : dsT f = some g) : dsOf Tryz.prog f = some g := lookD_ok dabs dabsOK f g h
end Go.Proofs.YtaicmladpjbjdaaGreatDoor
