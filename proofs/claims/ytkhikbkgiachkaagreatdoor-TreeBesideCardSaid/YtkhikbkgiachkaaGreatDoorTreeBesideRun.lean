/-
  TreeBeside as a closed run.
-/
import Derived.Test.YtkhikbkgiachkaaGreatDoorTLow
set_option linter.unusedVariables false
set_option linter.unusedSimpArgs false
set_option linter.unnecessarySimpa false
set_option linter.all false
namespace Go.Proofs.YtkhikbkgiachkaaGreatDoor
open Go.RowKit Ev
def TreeBesideNs : Nat → Nat
  | 0 => 4
  | 1 => 4
  | _ => 3
def TreeBesideCs (c0 c1 c2 : Nat) : Nat → Nat
  | 0 => c0
  | 1 => c1
  | _ => c2
def TreeBesideXs (x0 x1 x2 : Int) : Nat → Int
  | 0 => x0
  | 1 => x1
  | _ => x2
def TreeBesideRuns (c0 : Nat) (c1 : Nat) (c2 : Nat) (b3 : Bool) : Prop := isT (evMZ 200 fsT dsT (orcL TreeBesideNs (TreeBesideCs c0 c1 c2)) 100000 false 3 [.m 0, .m 1, .m 2, .b b3] mem0) = true
theorem treeBeside_at (ha : AwakeRuns) (hr : ∀ c0 c1 c2 : Nat, c0 < 4 → c1 < 4 → c2 < 3 → ∀ b3 : Bool, TreeBesideRuns c0 c1 c2 b3) (x0 : Int) (x1 : Int) (x2 : Int) (b3 : Bool) (w : World) :
    Calls Tryz.prog 3 #[.int .i64 x0, .int .i64 x1, .int .i64 x2, .bool b3] w fun e w' => e = .returned (.bool true) ∧ Below w.heap.size w w' := by
  obtain ⟨c0, hc0, hl0⟩ := low_nat x0 4 (by decide) (by decide)
  obtain ⟨c1, hc1, hl1⟩ := low_nat x1 4 (by decide) (by decide)
  obtain ⟨c2, hc2, hl2⟩ := low_nat x2 3 (by decide) (by decide)
  have hcs : ∀ k, 0 < TreeBesideNs k ∧ TreeBesideNs k ≤ 4294967296 ∧ lowZ ((TreeBesideXs x0 x1 x2) k) (TreeBesideNs k) = ((TreeBesideCs c0 c1 c2) k : Nat) := by
    intro k
    match k with
    | 0 => exact ⟨show 0 < 4 by decide, show 4 ≤ 4294967296 by decide, hc0⟩
    | 1 => exact ⟨show 0 < 4 by decide, show 4 ≤ 4294967296 by decide, hc1⟩
    | _ + 2 => exact ⟨show 0 < 3 by decide, show 3 ≤ 4294967296 by decide, hc2⟩
  obtain ⟨s, hs⟩ := isT_ok (hr c0 c1 c2 hl0 hl1 hl2 b3)
  refine (run_okY (μ := .of fun k => .int .i64 ((TreeBesideXs x0 x1 x2) k)) (fun _ => rfl) (orcL_ok ha (TreeBesideXs x0 x1 x2) TreeBesideNs (TreeBesideCs c0 c1 c2) hcs) mixed fsT_ok dsT_ok hs w Held.of [.int .i64 x0, .int .i64 x1, .int .i64 x2, .bool b3] ⟨_, _, rfl, rfl, ⟨_, _, rfl, rfl, ⟨_, _, rfl, rfl, ⟨_, _, rfl, rfl, rfl⟩⟩⟩⟩).mono ?_
  rintro e w' ⟨j', v, rfl, hv, hr⟩
  cases hv
  exact ⟨rfl, hr.below.to_below⟩
end Go.Proofs.YtkhikbkgiachkaaGreatDoor
