/-
The functions of the program in the small language.
-/
import Derived.Test.YtngfdcnglojcaaaGreatDoorRows
import Derived.Test.YtngfdcnglojcaaaGreatDoorRv
import Derived.Test.YtngfdcnglojcaaaGreatDoorEvC
set_option linter.all false
namespace Go.Proofs.YtngfdcnglojcaaaGreatDoor.Ev.Rf
noncomputable section
open Go Ev
noncomputable def gP (f:Nat):F:=match jBh Tryz.prog f with
 | some g=>g
 | none=>⟨0,[],.skip⟩
def isS {α:Type}:Option α→Bool
 | some _=>true
 | none=>false
theorem qLe {f:Nat} (h:isS (jBh Tryz.prog f)=true):jBh Tryz.prog f=some (gP f):=by
 unfold gP
 split
 ·rename_i g e; exact e
 ·rename_i e; rw [e] at h; cases h
end
end Go.Proofs.YtngfdcnglojcaaaGreatDoor.Ev.Rf
