/-
  ConfWrong as a closed run.
-/
import Derived.Test.YtegaanndakpdmaaGreatDoorCFLow
set_option linter.unusedVariables false
set_option linter.unusedSimpArgs false
set_option linter.unnecessarySimpa false
set_option linter.all false
namespace Go.Proofs.YtegaanndakpdmaaGreatDoor
open Go.RowKit Ev
def ConfWrongNs : Nat → Nat
  | 0 => 14
  | _ => 3
def ConfWrongCs (c0 c1 : Nat) : Nat → Nat
  | 0 => c0
  | _ => c1
def ConfWrongXs (x0 x1 : Int) : Nat → Int
  | 0 => x0
  | _ => x1
def ConfWrongRuns (c0 : Nat) (c1 : Nat) : Prop := isT (evMZ 200 fsT dsT (orcL ConfWrongNs (ConfWrongCs c0 c1)) 100000 false 3 [.m 0, .m 1] mem0) = true
theorem confWrong_at (ha : AwakeRuns) (hr : ∀ c0 c1 : Nat, c0 < 14 → c1 < 3 → ConfWrongRuns c0 c1) (x0 : Int) (x1 : Int) (w : World) (hm : Known w) :
    Calls Tryz.prog 3 #[.int .i64 x0, .int .i64 x1] w fun e w' => e = .returned (.bool true) ∧ Below w.heap.size w w' := by
  obtain ⟨c0, hc0, hl0⟩ := low_nat x0 14 (by decide) (by decide)
  obtain ⟨c1, hc1, hl1⟩ := low_nat x1 3 (by decide) (by decide)
  have hcs : ∀ k, 0 < ConfWrongNs k ∧ ConfWrongNs k ≤ 4294967296 ∧ lowZ ((ConfWrongXs x0 x1) k) (ConfWrongNs k) = ((ConfWrongCs c0 c1) k : Nat) := by
    intro k
    match k with
    | 0 => exact ⟨show 0 < 14 by decide, show 14 ≤ 4294967296 by decide, hc0⟩
    | _ + 1 => exact ⟨show 0 < 3 by decide, show 3 ≤ 4294967296 by decide, hc1⟩
  obtain ⟨s, hs⟩ := isT_ok (hr c0 c1 hl0 hl1 )
  refine (run_okY (μ := muL (ConfWrongXs x0 x1) w) (fun _ => rfl) (orcL_ok ha (ConfWrongXs x0 x1) ConfWrongNs (ConfWrongCs c0 c1) hcs hm) mixed fsT_ok dsT_ok hs w Held.with [.int .i64 x0, .int .i64 x1] ⟨_, _, rfl, rfl, ⟨_, _, rfl, rfl, rfl⟩⟩).mono ?_
  rintro e w' ⟨j', v, rfl, hv, hr⟩
  cases hv
  exact ⟨rfl, hr.below.to_below⟩
end Go.Proofs.YtegaanndakpdmaaGreatDoor
