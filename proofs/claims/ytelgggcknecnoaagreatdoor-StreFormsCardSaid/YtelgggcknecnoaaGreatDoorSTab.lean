/-
  The table of the functions that are run.
-/
import Derived.Test.YtelgggcknecnoaaGreatDoorSTab0
import Derived.Test.YtelgggcknecnoaaGreatDoorSTab1
import Derived.Test.YtelgggcknecnoaaGreatDoorSTab2
import Derived.Test.YtelgggcknecnoaaGreatDoorSTab3
import Derived.Test.YtelgggcknecnoaaGreatDoorSTab4
import Derived.Test.YtelgggcknecnoaaGreatDoorSTab5
import Derived.Test.YtelgggcknecnoaaGreatDoorSTab6
import Derived.Test.YtelgggcknecnoaaGreatDoorSTab7
import Derived.Test.YtelgggcknecnoaaGreatDoorSTab8
import Derived.Test.YtelgggcknecnoaaGreatDoorSTab9
set_option linter.unusedVariables false
set_option linter.unusedSimpArgs false
set_option linter.unnecessarySimpa false
set_option linter.all false
namespace Go.Proofs.YtelgggcknecnoaaGreatDoor
open Go Ev
def dabs : List (Nat × Ev.D) := [(50, d50)]
theorem dabsOK : DabOK Tryz.prog dabs := ⟨dok50, trivial⟩
def tabs : List (Nat × F) := (tab0 ++ (tab1 ++ (tab2 ++ (tab3 ++ (tab4 ++ (tab5 ++ (tab6 ++ (tab7 ++ (tab8 ++ tab9)))))))))
theorem tabsOK : TabOK Tryz.prog tabs := (tabOK0.app (tabOK1.app (tabOK2.app (tabOK3.app (tabOK4.app (tabOK5.app (tabOK6.app (tabOK7.app (tabOK8.app tabOK9)))))))))
noncomputable def fsT : Nat → Option F := Ev.look tabs
theorem fsT_ok (f : Nat) (g : F) (h : fsT f = some g) : fsOf Tryz.prog f = some g := look_ok tabs tabsOK f g h
noncomputable def dsT : Nat → Option Ev.D := Ev.lookD dabs
theorem dsT_ok (f : Nat) (g : Ev.D) (h : dsT f = some g) : dsOf Tryz.prog f = some g := lookD_ok dabs dabsOK f g h
end Go.Proofs.YtelgggcknecnoaaGreatDoor
