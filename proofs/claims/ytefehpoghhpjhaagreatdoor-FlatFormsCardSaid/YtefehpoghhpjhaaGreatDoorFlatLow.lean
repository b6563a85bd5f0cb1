/-
  FlatForms as a closed run: what is known of its parts (Low, awake), and how a run tells of the call.
-/
import Derived.Test.YtefehpoghhpjhaaGreatDoorFTab0
import Derived.Test.YtefehpoghhpjhaaGreatDoorFTab1
import Derived.Test.YtefehpoghhpjhaaGreatDoorFTab2
import Derived.Test.YtefehpoghhpjhaaGreatDoorFTab3
import Derived.Test.YtefehpoghhpjhaaGreatDoorFTab4
import Derived.Test.YtefehpoghhpjhaaGreatDoorFTab5
import Derived.Test.YtefehpoghhpjhaaGreatDoorFTab6
import Derived.Test.YtefehpoghhpjhaaGreatDoorFTab7
import Derived.Test.YtefehpoghhpjhaaGreatDoorFTab8
import Derived.Test.YtefehpoghhpjhaaGreatDoorFTab9
import Derived.WalkKit
set_option linter.unusedVariables false
set_option linter.unusedSimpArgs false
set_option linter.unnecessarySimpa false
set_option linter.all false
namespace Go.Proofs.YtefehpoghhpjhaaGreatDoor
open Go.RowKit Ev

def isT : Option (AV × Mem) → Bool
  | some (.b true, _) => true
  | _ => false
theorem isT_ok {r : Option (AV × Mem)} (h : isT r = true) : ∃ s, r = some (.b true, s) := by
  unfold isT at h
  split at h
  · exact ⟨_, rfl⟩
  · cases h
theorem mixed : Tryz.prog.follows .mixedOrders = true := by kernel_rfl

/-- what Low hands back. -/
def lowZ (x n : Int) : Int := wrap64 ((IntKind.u64.wrap x).tmod n)
theorem low_val (x n : Int) (h0 : 0 < n) (h1 : n ≤ 4294967296) : 0 ≤ lowZ x n ∧ lowZ x n < n := by
  have hx : 0 ≤ IntKind.u64.wrap x := by
    simp [IntKind.wrap, IntKind.signed, IntKind.bits]
    omega
  have a := Int.tmod_nonneg n hx
  have b := Int.tmod_lt_of_pos (IntKind.u64.wrap x) h0
  have e : wrap64 ((IntKind.u64.wrap x).tmod n) = (IntKind.u64.wrap x).tmod n := by
    unfold wrap64
    omega
  unfold lowZ
  rw [e]; exact ⟨a, b⟩
set_option maxHeartbeats 1000000 in
theorem low_any (x n : Int) (w : World) (h0 : 0 < n) (h1 : n ≤ 4294967296) :
    Calls Tryz.prog 4 #[.int .i64 x, .int .i64 n] w fun e w' => e = .returned (.int .i64 (lowZ x n)) ∧ w = w' := by
  go_enter Tryz.func4, Tryz.ntmps4
  go_wp2
  go_ret
  exact ⟨rfl, rfl⟩

/-- known answers: Low's at the marked number, awake's. -/
def orcF (c : Nat) (f : Nat) (l : List AV) : Option AV :=
  if Nat.beq f 4 then (match l with
    | [.m 0, .i .i64 (.ofNat n)] => if Nat.beq n 16 then some (.i .i64 (.ofNat c)) else none
    | _ => none)
  else if Nat.beq f 9 then (match l with
    | [] => some (.b true)
    | _ => none)
  else none
/-- the functions that are run. -/
def tabs : List (Nat × F) := tab0 ++ (tab1 ++ (tab2 ++ (tab3 ++ (tab4 ++ (tab5 ++ (tab6 ++ (tab7 ++ (tab8 ++ tab9))))))))
theorem tabsOK : TabOK Tryz.prog tabs := tabOK0.app (tabOK1.app (tabOK2.app (tabOK3.app (tabOK4.app (tabOK5.app (tabOK6.app (tabOK7.app (tabOK8.app tabOK9))))))))
noncomputable def fsT : Nat → Option F := Ev.look tabs
theorem fsT_ok (f : Nat) (g : F) (h : fsT f = some g) : fsOf Tryz.prog f = some g := look_ok tabs tabsOK f g h
def AwakeRuns : Prop := isT (evZ 200 fsT (fun _ _ => none) 100000 9 [] mem0) = true
def FormRuns (c : Nat) (b : Bool) : Prop := isT (evZ 200 fsT (orcF c) 100000 3 [.m 0, .b b] mem0) = true
theorem awake_any (h : AwakeRuns) (w : World) : Calls Tryz.prog 9 #[] w fun e w' => e = .returned (.bool true) ∧ Below w.heap.size w w' := by
  obtain ⟨s, hs⟩ := isT_ok h
  refine (run_okZ (μ := fun _ => .bool true) (fun _ => rfl) noOrc mixed fsT_ok hs w [] rfl).mono ?_
  rintro e w' ⟨j', v, rfl, hv, hr⟩
  cases hv
  exact ⟨rfl, hr.below⟩
theorem orcF_ok (h : AwakeRuns) (x : Int) (c : Nat) (hc : lowZ x 16 = c) : OrcOK Tryz.prog (fun _ => .int .i64 x) (orcF c) := by
  intro f args y hy j w vs hv
  unfold orcF at hy
  split at hy
  · rename_i hf
    obtain rfl := Nat.eq_of_beq_eq_true hf
    split at hy
    · rename_i n
      split at hy
      · rename_i hn
        obtain rfl := Nat.eq_of_beq_eq_true hn
        cases hy
        obtain ⟨v, t, rfl, h1, h2⟩ := hv
        obtain ⟨v2, t2, rfl, h3, h4⟩ := h2
        cases h1
        cases h3
        cases h4
        refine ⟨⟨Tryz.f4, Tryz.func4, rfl, by decide +kernel⟩, (low_any x 16 w (by decide) (by decide)).mono ?_⟩
        rintro e w' ⟨rfl, rfl⟩
        exact ⟨_, rfl, by show _ = _; rw [hc]; rfl, Below.refl _ _⟩
      · cases hy
    · cases hy
  · split at hy
    · rename_i hf
      obtain rfl := Nat.eq_of_beq_eq_true hf
      split at hy
      · cases hy
        cases hv
        refine ⟨⟨Tryz.f9, Tryz.func9, rfl, by decide +kernel⟩, (awake_any h w).mono ?_⟩
        rintro e w' ⟨rfl, hb⟩
        exact ⟨_, rfl, rfl, hb⟩
      · cases hy
    · cases hy
theorem forms_at (ha : AwakeRuns) (hr : ∀ (c : Nat), c < 16 → ∀ b, FormRuns c b) (x : Int) (b : Bool) (w : World) :
    Calls Tryz.prog 3 #[.int .i64 x, .bool b] w fun e w' => e = .returned (.bool true) ∧ Below w.heap.size w w' := by
  obtain ⟨h0, h1⟩ := low_val x 16 (by decide) (by decide)
  obtain ⟨c, hc⟩ : ∃ c : Nat, lowZ x 16 = c := ⟨(lowZ x 16).toNat, by omega⟩
  obtain ⟨s, hs⟩ := isT_ok (hr c (by omega) b)
  refine (run_okZ (μ := fun _ => .int .i64 x) (fun _ => rfl) (orcF_ok ha x c hc) mixed fsT_ok hs w [.int .i64 x, .bool b] ⟨_, _, rfl, rfl, _, _, rfl, rfl, rfl⟩).mono ?_
  rintro e w' ⟨j', v, rfl, hv, hr⟩
  cases hv
  exact ⟨rfl, hr.below⟩
end Go.Proofs.YtefehpoghhpjhaaGreatDoor
