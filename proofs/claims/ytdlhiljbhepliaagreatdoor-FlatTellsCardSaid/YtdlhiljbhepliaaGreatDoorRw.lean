/-
The functions of the program in the small language.
-/
import Derived.Test.YtdlhiljbhepliaaGreatDoorRows
import Derived.Test.YtdlhiljbhepliaaGreatDoorRv
import Derived.Test.YtdlhiljbhepliaaGreatDoorEvC
set_option linter.all false
namespace Go.Proofs.YtdlhiljbhepliaaGreatDoor.Ev.Rf
noncomputable section
open Go Ev
noncomputable def gP (f:Nat):F:=match jDm Tryz.prog f with
 | some g=>g
 | none=>⟨0,[],.skip⟩
def isS {α:Type}:Option α→Bool
 | some _=>true
 | none=>false
theorem qPi {f:Nat} (h:isS (jDm Tryz.prog f)=true):jDm Tryz.prog f=some (gP f):=by
 unfold gP;split
 ·rename_i g e; exact e
 ·rename_i e; rw [e] at h; cases h
abbrev jK (f:Nat) (c:CtX) (l:LN) (a:Nat→Option Ann:=a0) (h:Nat→Option (List LT):=h0) (k:Nat→Nat:=k0):Prop:=jPe (xF PT 200000000000000 f (gP f) c a h k) (exN tb l)=true
abbrev jK1 (f:Nat) (c:CtX) (l:LN) (a:Nat→Option Ann:=a0) (h:Nat→Option (List LT):=h0) (k:Nat→Nat:=k0):Prop:=jPe (xF1 PT 200000000000000 f (gP f) c a h k) (exN tb l)=true
abbrev jK2 (f:Nat) (c:CtX) (l:LN) (a:Nat→Option Ann:=a0) (h:Nat→Option (List LT):=h0) (k:Nat→Nat:=k0):Prop:=jPe (xF2 PT 200000000000000 f (gP f) c a h k) (exN tb l)=true
end
end Go.Proofs.YtdlhiljbhepliaaGreatDoor.Ev.Rf
