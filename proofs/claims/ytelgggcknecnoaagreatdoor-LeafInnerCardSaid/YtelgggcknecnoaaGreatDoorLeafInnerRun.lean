/-
  LeafInner as a closed run.
-/
import Derived.Test.YtelgggcknecnoaaGreatDoorLILow
set_option linter.unusedVariables false
set_option linter.unusedSimpArgs false
set_option linter.unnecessarySimpa false
set_option linter.all false
namespace Go.Proofs.YtelgggcknecnoaaGreatDoor
open Go.RowKit Ev
def LeafInnerNs (_ : Nat) : Nat := 13
def LeafInnerCs (c0 : Nat) (_ : Nat) : Nat := c0
def LeafInnerXs (x0 : Int) (_ : Nat) : Int := x0
def LeafInnerRuns (c0 : Nat) : Prop := isT (evMZ 200 fsT dsT (orcL LeafInnerNs (LeafInnerCs c0)) 100000 false 4 [.m 0] mem0) = true
theorem leafInner_at (ha : AwakeRuns) (hr : ∀ c0 : Nat, c0 < 13 → LeafInnerRuns c0) (x0 : Int) (w : World) :
    Calls Tryz.prog 4 #[.int .i64 x0] w fun e w' => e = .returned (.bool true) ∧ Below w.heap.size w w' := by
  obtain ⟨c0, hc0, hl0⟩ := low_nat x0 13 (by decide) (by decide)
  have hcs : ∀ k, 0 < LeafInnerNs k ∧ LeafInnerNs k ≤ 4294967296 ∧ lowZ ((LeafInnerXs x0) k) (LeafInnerNs k) = ((LeafInnerCs c0) k : Nat) := by
    intro k
    exact ⟨show 0 < 13 by decide, show 13 ≤ 4294967296 by decide, hc0⟩
  obtain ⟨s, hs⟩ := isT_ok (hr c0 hl0 )
  refine (run_okY (μ := .of fun k => .int .i64 ((LeafInnerXs x0) k)) (fun _ => rfl) (orcL_ok ha (LeafInnerXs x0) LeafInnerNs (LeafInnerCs c0) hcs) mixed fsT_ok dsT_ok hs w Held.of [.int .i64 x0] ⟨_, _, rfl, rfl, rfl⟩).mono ?_
  rintro e w' ⟨j', v, rfl, hv, hr⟩
  cases hv
  exact ⟨rfl, hr.below.to_below⟩
end Go.Proofs.YtelgggcknecnoaaGreatDoor
