/-
  Closed runs: what is known of Low and awake, and how a run tells of a call.
-/
import Derived.Test.YtaicmladpjbjdaaGreatDoorGTab
import Derived.WalkKit
set_option linter.unusedVariables false
set_option linter.unusedSimpArgs false
set_option linter.unnecessarySimpa false
set_option linter.all false
namespace Go.Proofs.YtaicmladpjbjdaaGreatDoor
open Go.RowKit Ev

def isT : Option (AV × Mem) → Bool
  | some (.b true, _) => true
  | _ => false
theorem isT_ok {r : Option (AV × Mem)} (h : isT r = true) : ∃ s, r = some (.b true, s) := by
  unfold isT at h
  split at h
  · exact ⟨_, rfl⟩
  · cases h
theorem mixed : Tryz.prog.follows .mixedOrders = true := by kernel_rfl

/-- what Low hands back. -/
def lowZ (x n : Int) : Int := wrap64 ((IntKind.u64.wrap x).tmod n)
theorem low_val (x n : Int) (h0 : 0 < n) (h1 : n ≤ 4294967296) : 0 ≤ lowZ x n ∧ lowZ x n < n := by
  have hx : 0 ≤ IntKind.u64.wrap x := by
    simp [IntKind.wrap, IntKind.signed, IntKind.bits]
    omega
  have a := Int.tmod_nonneg n hx
  have b := Int.tmod_lt_of_pos (IntKind.u64.wrap x) h0
  have e : wrap64 ((IntKind.u64.wrap x).tmod n) = (IntKind.u64.wrap x).tmod n := by
    unfold wrap64
    omega
  unfold lowZ
  rw [e]; exact ⟨a, b⟩
theorem low_nat (x : Int) (n : Nat) (h0 : 0 < n) (h1 : n ≤ 4294967296) : ∃ c : Nat, lowZ x n = c ∧ c < n := by
  obtain ⟨a, b⟩ := low_val x n (by omega) (by omega)
  exact ⟨(lowZ x n).toNat, by omega, by omega⟩
set_option maxHeartbeats 1000000 in
theorem low_any (x : Int) (n : Nat) (w : World) (h0 : 0 < n) (h1 : n ≤ 4294967296) :
    Calls Tryz.prog 4 #[.int .i64 x, .int .i64 n] w fun e w' => e = .returned (.int .i64 (lowZ x n)) ∧ w = w' := by
  have hn0 : (0 : Int) < n := by omega
  have hn1 : (n : Int) ≤ 4294967296 := by omega
  generalize (n : Int) = z at hn0 hn1 ⊢
  clear h0 h1
  go_enter Tryz.func4, Tryz.ntmps4
  go_wp2
  go_ret
  exact ⟨rfl, rfl⟩

/-- known answers: Low's at the marked numbers, awake's. -/
def orcL (ns cs : Nat → Nat) (f : Nat) (l : List AV) : Option AV :=
  if Nat.beq f 4 then (match l with
    | [.m k, .i .i64 (.ofNat n)] => if Nat.beq n (ns k) then some (.i .i64 (.ofNat (cs k))) else none
    | _ => none)
  else if Nat.beq f 9 then (match l with
    | [] => some (.b true)
    | _ => none)
  else none
def AwakeRuns : Prop := isT (evMZ 200 fsT dsT (fun _ _ => none) 100000 false 9 [] mem0) = true
theorem awake_any (h : AwakeRuns) (w : World) : Calls Tryz.prog 9 #[] w fun e w' => e = .returned (.bool true) ∧ Below w.heap.size w w' := by
  obtain ⟨s, hs⟩ := isT_ok h
  refine (run_okY (μ := .of fun _ => .bool true) (fun _ => rfl) noOrc mixed fsT_ok dsT_ok hs w Held.of [] rfl).mono ?_
  rintro e w' ⟨j', v, rfl, hv, hr⟩
  cases hv
  exact ⟨rfl, hr.below.to_below⟩
theorem orcL_ok (h : AwakeRuns) (xs : Nat → Int) (ns cs : Nat → Nat) (hc : ∀ k, 0 < ns k ∧ ns k ≤ 4294967296 ∧ lowZ (xs k) (ns k) = cs k) : OrcOK Tryz.prog (.of fun k => .int .i64 (xs k)) (orcL ns cs) := by
  intro f args y hy j w vs hh hv
  unfold orcL at hy
  split at hy
  · rename_i hf
    obtain rfl := Nat.eq_of_beq_eq_true hf
    split at hy
    · rename_i k n
      split at hy
      · rename_i hn
        obtain rfl := Nat.eq_of_beq_eq_true hn
        cases hy
        obtain ⟨v, t, rfl, h1, h2⟩ := hv
        obtain ⟨v2, t2, rfl, h3, h4⟩ := h2
        cases h1
        cases h3
        cases h4
        refine ⟨⟨Tryz.f4, Tryz.func4, rfl, by decide +kernel⟩, (low_any (xs k) (ns k) w (hc k).1 (hc k).2.1).mono ?_⟩
        rintro e w' ⟨rfl, rfl⟩
        exact ⟨_, rfl, by show _ = _; rw [(hc k).2.2]; rfl, Below.refl _ _⟩
      · cases hy
    · cases hy
  · split at hy
    · rename_i hf
      obtain rfl := Nat.eq_of_beq_eq_true hf
      split at hy
      · cases hy
        cases hv
        refine ⟨⟨Tryz.f9, Tryz.func9, rfl, by decide +kernel⟩, (awake_any h w).mono ?_⟩
        rintro e w' ⟨rfl, hb⟩
        exact ⟨_, rfl, rfl, hb⟩
      · cases hy
    · cases hy
end Go.Proofs.YtaicmladpjbjdaaGreatDoor
