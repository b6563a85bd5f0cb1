/-
The functions of the program in the small language.
-/
import Derived.Test.YthfmepmchaofjaaGreatRows
import Derived.Test.YthfmepmchaofjaaGreatRv
import Derived.Test.YthfmepmchaofjaaGreatEvC
set_option linter.all false
namespace Go.Proofs.YthfmepmchaofjaaGreat.Ev.Rf
noncomputable section
open Go Ev
noncomputable def gP (f : Nat) : F := match lS Tryz.prog f with
 | some g => g
 | none => ⟨0, [], .skip⟩
def isS {α : Type} : Option α → Bool
 | some _ => true
 | none => false
theorem qCc {f : Nat} (h : isS (lS Tryz.prog f) = true) : lS Tryz.prog f = some (gP f) := by
 unfold gP
 split
 ·rename_i g e; exact e
 ·rename_i e; rw [e] at h; cases h
end
end Go.Proofs.YthfmepmchaofjaaGreat.Ev.Rf
