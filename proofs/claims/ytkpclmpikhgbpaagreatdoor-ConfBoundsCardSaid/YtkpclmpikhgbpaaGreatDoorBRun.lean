/-
  ConfBounds as runs: at numbers of so many digits at once, and at the others one by one.
-/
import Derived.Test.YtkpclmpikhgbpaaGreatDoorBOrc
set_option linter.unusedVariables false
set_option linter.unusedSimpArgs false
set_option linter.unnecessarySimpa false
set_option linter.all false
namespace Go.Proofs.YtkpclmpikhgbpaaGreatDoor
open Go.RowKit Ev
noncomputable def clsT (k q : Nat) : Bool := isT (evMZ 200 fsT dsT (orcB k q) 100000 false 3 [.m 0, .m 1] mem0)
def cbNs (k : Nat) : Nat → Nat
  | 0 => cbN k
  | _ => 3
def cbCs (c k : Nat) : Nat → Nat
  | 0 => c
  | _ => k
def cbXs (x y : Int) : Nat → Int
  | 0 => x
  | _ => y
noncomputable def cbT (k c : Nat) : Bool := isT (evMZ 200 fsT dsT (orcL (cbNs k) (cbCs c k)) 100000 false 3 [.m 0, .m 1] mem0)
def Holds (x y : Int) (w : World) : Prop := Calls Tryz.prog 3 #[.int .i64 x, .int .i64 y] w fun e w' => e = .returned (.bool true) ∧ Below w.heap.size w w'
theorem at_cls (ha : AwakeRuns) {k q c : Nat} (hr : clsT k q = true) {x y : Int} (hk : lowZ y 3 = k) (hc : lowZ x (cbN k) = c) (h0 : lowN q ≤ c) (h1 : c ≤ higN q) {w : World} (hm : Known w) : Holds x y w := by
  obtain ⟨s, hs⟩ := isT_ok hr
  refine (run_okY (μ := muL (xsN q x y c) w) (fun _ => rfl) (orcB_ok ha hk hc h0 h1 hm) mixed fsT_ok dsT_ok hs w Held.with [.int .i64 x, .int .i64 y] ⟨_, _, rfl, rfl, _, _, rfl, rfl, rfl⟩).mono ?_
  rintro e w' ⟨j', v, rfl, hv, hr⟩
  cases hv
  exact ⟨rfl, hr.below.to_below⟩
theorem at_one (ha : AwakeRuns) {k c : Nat} (hr : cbT k c = true) {x y : Int} (hk : lowZ y 3 = k) (hc : lowZ x (cbN k) = c) {w : World} (hm : Known w) : Holds x y w := by
  have hn : 0 < cbN k ∧ cbN k ≤ 4294967296 := by unfold cbN; split <;> omega
  have hcs : ∀ q, 0 < cbNs k q ∧ cbNs k q ≤ 4294967296 ∧ lowZ (cbXs x y q) (cbNs k q) = (cbCs c k q : Nat) := by
    intro q
    match q with
    | 0 => exact ⟨hn.1, hn.2, hc⟩
    | _ + 1 => exact ⟨show 0 < 3 by decide, show 3 ≤ 4294967296 by decide, hk⟩
  obtain ⟨s, hs⟩ := isT_ok hr
  refine (run_okY (μ := muL (cbXs x y) w) (fun _ => rfl) (orcL_ok ha (cbXs x y) (cbNs k) (cbCs c k) hcs hm) mixed fsT_ok dsT_ok hs w Held.with [.int .i64 x, .int .i64 y] ⟨_, _, rfl, rfl, _, _, rfl, rfl, rfl⟩).mono ?_
  rintro e w' ⟨j', v, rfl, hv, hr⟩
  cases hv
  exact ⟨rfl, hr.below.to_below⟩
/-- all the runs. -/
structure CbRuns : Prop where
  c01 : clsT 0 1 = true
  c02 : clsT 0 2 = true
  c03 : clsT 0 3 = true
  c04 : clsT 0 4 = true
  c11 : clsT 1 1 = true
  c21 : clsT 2 1 = true
  o0 : ∀ c, c = 0 ∨ c = 10000 ∨ c = 10001 ∨ c = 10002 → cbT 0 c = true
  o1 : ∀ c, c = 0 ∨ c = 10 ∨ c = 11 → cbT 1 c = true
  o2 : ∀ c, c = 0 ∨ c = 10 ∨ c = 11 → cbT 2 c = true
theorem confBounds_at (ha : AwakeRuns) (hr : CbRuns) (x y : Int) (w : World) (hm : Known w) :
    Calls Tryz.prog 3 #[.int .i64 x, .int .i64 y] w fun e w' => e = .returned (.bool true) ∧ Below w.heap.size w w' := by
  show Holds x y w
  obtain ⟨k, hk, hk3⟩ := low_nat y 3 (by decide) (by decide)
  have hn : 0 < cbN k ∧ cbN k ≤ 4294967296 := by unfold cbN; split <;> omega
  obtain ⟨c, hc, hcn⟩ := low_nat x (cbN k) hn.1 hn.2
  match k, hk3, hk, hc, hcn with
  | 0, _, hk, hc, hcn =>
    have hcn : c < 10003 := hcn
    by_cases h1 : 1 ≤ c ∧ c ≤ 9
    · exact at_cls ha hr.c01 hk hc h1.1 h1.2 hm
    by_cases h2 : 10 ≤ c ∧ c ≤ 99
    · exact at_cls ha hr.c02 hk hc h2.1 h2.2 hm
    by_cases h3 : 100 ≤ c ∧ c ≤ 999
    · exact at_cls ha hr.c03 hk hc h3.1 h3.2 hm
    by_cases h4 : 1000 ≤ c ∧ c ≤ 9999
    · exact at_cls ha hr.c04 hk hc h4.1 h4.2 hm
    exact at_one ha (hr.o0 c (by omega)) hk hc hm
  | 1, _, hk, hc, hcn =>
    have hcn : c < 12 := hcn
    by_cases h1 : 1 ≤ c ∧ c ≤ 9
    · exact at_cls ha hr.c11 hk hc h1.1 h1.2 hm
    exact at_one ha (hr.o1 c (by omega)) hk hc hm
  | 2, _, hk, hc, hcn =>
    have hcn : c < 12 := hcn
    by_cases h1 : 1 ≤ c ∧ c ≤ 9
    · exact at_cls ha hr.c21 hk hc h1.1 h1.2 hm
    exact at_one ha (hr.o2 c (by omega)) hk hc hm
  | n + 3, h, _, _, _ => exact absurd h (by omega)
end Go.Proofs.YtkpclmpikhgbpaaGreatDoor
