/-
  GrapTags as a closed run.
-/
import Derived.Test.YtaicmladpjbjdaaGreatDoorGTLow
set_option linter.unusedVariables false
set_option linter.unusedSimpArgs false
set_option linter.unnecessarySimpa false
set_option linter.all false
namespace Go.Proofs.YtaicmladpjbjdaaGreatDoor
open Go.RowKit Ev
def GrapTagsNs : Nat → Nat
  | 0 => 10
  | _ => 7
def GrapTagsCs (c0 c1 : Nat) : Nat → Nat
  | 0 => c0
  | _ => c1
def GrapTagsXs (x0 x1 : Int) : Nat → Int
  | 0 => x0
  | _ => x1
def GrapTagsRuns (c0 : Nat) (c1 : Nat) : Prop := isT (evMZ 200 fsT dsT (orcL GrapTagsNs (GrapTagsCs c0 c1)) 100000 false 3 [.m 0, .m 1] mem0) = true
theorem grapTags_at (ha : AwakeRuns) (hr : ∀ c0 c1 : Nat, c0 < 10 → c1 < 7 → GrapTagsRuns c0 c1) (x0 : Int) (x1 : Int) (w : World) :
    Calls Tryz.prog 3 #[.int .i64 x0, .int .i64 x1] w fun e w' => e = .returned (.bool true) ∧ Below w.heap.size w w' := by
  obtain ⟨c0, hc0, hl0⟩ := low_nat x0 10 (by decide) (by decide)
  obtain ⟨c1, hc1, hl1⟩ := low_nat x1 7 (by decide) (by decide)
  have hcs : ∀ k, 0 < GrapTagsNs k ∧ GrapTagsNs k ≤ 4294967296 ∧ lowZ ((GrapTagsXs x0 x1) k) (GrapTagsNs k) = ((GrapTagsCs c0 c1) k : Nat) := by
    intro k
    match k with
    | 0 => exact ⟨show 0 < 10 by decide, show 10 ≤ 4294967296 by decide, hc0⟩
    | _ + 1 => exact ⟨show 0 < 7 by decide, show 7 ≤ 4294967296 by decide, hc1⟩
  obtain ⟨s, hs⟩ := isT_ok (hr c0 c1 hl0 hl1 )
  refine (run_okY (μ := .of fun k => .int .i64 ((GrapTagsXs x0 x1) k)) (fun _ => rfl) (orcL_ok ha (GrapTagsXs x0 x1) GrapTagsNs (GrapTagsCs c0 c1) hcs) mixed fsT_ok dsT_ok hs w Held.of [.int .i64 x0, .int .i64 x1] ⟨_, _, rfl, rfl, ⟨_, _, rfl, rfl, rfl⟩⟩).mono ?_
  rintro e w' ⟨j', v, rfl, hv, hr⟩
  cases hv
  exact ⟨rfl, hr.below.to_below⟩
end Go.Proofs.YtaicmladpjbjdaaGreatDoor
