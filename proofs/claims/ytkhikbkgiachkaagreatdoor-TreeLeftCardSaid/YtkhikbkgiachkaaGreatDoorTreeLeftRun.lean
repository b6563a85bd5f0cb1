/-
  TreeLeft as a closed run.
-/
import Derived.Test.YtkhikbkgiachkaaGreatDoorTLow
set_option linter.unusedVariables false
set_option linter.unusedSimpArgs false
set_option linter.unnecessarySimpa false
set_option linter.all false
namespace Go.Proofs.YtkhikbkgiachkaaGreatDoor
open Go.RowKit Ev
def TreeLeftNs (_ : Nat) : Nat := 18
def TreeLeftCs (c0 : Nat) (_ : Nat) : Nat := c0
def TreeLeftXs (x0 : Int) (_ : Nat) : Int := x0
def TreeLeftRuns (c0 : Nat) : Prop := isT (evMZ 200 fsT dsT (orcL TreeLeftNs (TreeLeftCs c0)) 100000 false 4 [.m 0] mem0) = true
theorem treeLeft_at (ha : AwakeRuns) (hr : ∀ c0 : Nat, c0 < 18 → TreeLeftRuns c0) (x0 : Int) (w : World) :
    Calls Tryz.prog 4 #[.int .i64 x0] w fun e w' => e = .returned (.bool true) ∧ Below w.heap.size w w' := by
  obtain ⟨c0, hc0, hl0⟩ := low_nat x0 18 (by decide) (by decide)
  have hcs : ∀ k, 0 < TreeLeftNs k ∧ TreeLeftNs k ≤ 4294967296 ∧ lowZ ((TreeLeftXs x0) k) (TreeLeftNs k) = ((TreeLeftCs c0) k : Nat) := by
    intro k
    exact ⟨show 0 < 18 by decide, show 18 ≤ 4294967296 by decide, hc0⟩
  obtain ⟨s, hs⟩ := isT_ok (hr c0 hl0 )
  refine (run_okY (μ := .of fun k => .int .i64 ((TreeLeftXs x0) k)) (fun _ => rfl) (orcL_ok ha (TreeLeftXs x0) TreeLeftNs (TreeLeftCs c0) hcs) mixed fsT_ok dsT_ok hs w Held.of [.int .i64 x0] ⟨_, _, rfl, rfl, rfl⟩).mono ?_
  rintro e w' ⟨j', v, rfl, hv, hr⟩
  cases hv
  exact ⟨rfl, hr.below.to_below⟩
end Go.Proofs.YtkhikbkgiachkaaGreatDoor
