/-
  StreForms as a closed run.
-/
import Derived.Test.YtelgggcknecnoaaGreatDoorSFLow
set_option linter.unusedVariables false
set_option linter.unusedSimpArgs false
set_option linter.unnecessarySimpa false
set_option linter.all false
namespace Go.Proofs.YtelgggcknecnoaaGreatDoor
open Go.RowKit Ev
def StreFormsNs (_ : Nat) : Nat := 24
def StreFormsCs (c0 : Nat) (_ : Nat) : Nat := c0
def StreFormsXs (x0 : Int) (_ : Nat) : Int := x0
def StreFormsRuns (c0 : Nat) : Prop := isT (evMZ 200 fsT dsT (orcL StreFormsNs (StreFormsCs c0)) 100000 false 3 [.m 0] mem0) = true
theorem streForms_at (ha : AwakeRuns) (hr : ∀ c0 : Nat, c0 < 24 → StreFormsRuns c0) (x0 : Int) (w : World) :
    Calls Tryz.prog 3 #[.int .i64 x0] w fun e w' => e = .returned (.bool true) ∧ Below w.heap.size w w' := by
  obtain ⟨c0, hc0, hl0⟩ := low_nat x0 24 (by decide) (by decide)
  have hcs : ∀ k, 0 < StreFormsNs k ∧ StreFormsNs k ≤ 4294967296 ∧ lowZ ((StreFormsXs x0) k) (StreFormsNs k) = ((StreFormsCs c0) k : Nat) := by
    intro k
    exact ⟨show 0 < 24 by decide, show 24 ≤ 4294967296 by decide, hc0⟩
  obtain ⟨s, hs⟩ := isT_ok (hr c0 hl0 )
  refine (run_okY (μ := .of fun k => .int .i64 ((StreFormsXs x0) k)) (fun _ => rfl) (orcL_ok ha (StreFormsXs x0) StreFormsNs (StreFormsCs c0) hcs) mixed fsT_ok dsT_ok hs w Held.of [.int .i64 x0] ⟨_, _, rfl, rfl, rfl⟩).mono ?_
  rintro e w' ⟨j', v, rfl, hv, hr⟩
  cases hv
  exact ⟨rfl, hr.below.to_below⟩
end Go.Proofs.YtelgggcknecnoaaGreatDoor
