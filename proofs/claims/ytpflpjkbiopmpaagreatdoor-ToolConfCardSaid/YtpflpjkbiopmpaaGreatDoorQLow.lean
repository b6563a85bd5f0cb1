/-
  Closed runs: what is known of Low and awake, and how a run tells of a call.
-/
import Derived.Test.YtpflpjkbiopmpaaGreatDoorQTab
import Derived.WalkKit
import Derived.Test.YtpflpjkbiopmpaaGreatDoorEvX
import Derived.Test.YtpflpjkbiopmpaaGreatDoorCutShelf
set_option linter.unusedVariables false
set_option linter.unusedSimpArgs false
set_option linter.unnecessarySimpa false
set_option linter.all false
namespace Go.Proofs.YtpflpjkbiopmpaaGreatDoor
open Go.RowKit Ev

def isT : Option (AV × Mem) → Bool
  | some (.b true, _) => true
  | _ => false
theorem isT_ok {r : Option (AV × Mem)} (h : isT r = true) : ∃ s, r = some (.b true, s) := by
  unfold isT at h
  split at h
  · exact ⟨_, rfl⟩
  · cases h
theorem mixed : Tryz.prog.follows .mixedOrders = true := by kernel_rfl

/-- what Low hands back. -/
def lowZ (x n : Int) : Int := wrap64 ((IntKind.u64.wrap x).tmod n)
theorem low_val (x n : Int) (h0 : 0 < n) (h1 : n ≤ 4294967296) : 0 ≤ lowZ x n ∧ lowZ x n < n := by
  have hx : 0 ≤ IntKind.u64.wrap x := by
    simp [IntKind.wrap, IntKind.signed, IntKind.bits]
    omega
  have a := Int.tmod_nonneg n hx
  have b := Int.tmod_lt_of_pos (IntKind.u64.wrap x) h0
  have e : wrap64 ((IntKind.u64.wrap x).tmod n) = (IntKind.u64.wrap x).tmod n := by
    unfold wrap64
    omega
  unfold lowZ
  rw [e]; exact ⟨a, b⟩
theorem low_nat (x : Int) (n : Nat) (h0 : 0 < n) (h1 : n ≤ 4294967296) : ∃ c : Nat, lowZ x n = c ∧ c < n := by
  obtain ⟨a, b⟩ := low_val x n (by omega) (by omega)
  exact ⟨(lowZ x n).toNat, by omega, by omega⟩
set_option maxHeartbeats 1000000 in
theorem low_any (x : Int) (n : Nat) (w : World) (h0 : 0 < n) (h1 : n ≤ 4294967296) :
    Calls Tryz.prog 5 #[.int .i64 x, .int .i64 n] w fun e w' => e = .returned (.int .i64 (lowZ x n)) ∧ w = w' := by
  have hn0 : (0 : Int) < n := by omega
  have hn1 : (n : Int) ≤ 4294967296 := by omega
  generalize (n : Int) = z at hn0 hn1 ⊢
  clear h0 h1
  go_enter Tryz.func5, Tryz.ntmps5
  go_wp2
  go_ret
  exact ⟨rfl, rfl⟩

/-- known answers: where a text stands in a text; two texts that are no number. -/
noncomputable def orcI (f : Nat) (l : List AV) : Option AV :=
  selZ (Nat.beq f 149) (match l with
    | [.s n v, .s m u] => if Nat.ble n 1000000 then some (idxV n v m u) else none
    | _ => none)
  (selZ (Nat.beq f 206) (match l with
    | [.s 0 _] => some (.tup [.i .i64 0, .ifx])
    | [.s 1 97] => some (.tup [.i .i64 0, .ifx])
    | _ => none)
  none)
/-- what is known of two of the library's variables. -/
structure Known (W : World) : Prop where
  idx : ∃ m, W.cell? ⟨1, 0, none⟩ = some (.int .i64 m)
  syn : ∃ ev, W.cell? ⟨6, 0, none⟩ = some ev ∧ (ev = .nilIface ∨ ∃ te pe, ev = .iface te pe)
abbrev muV (vs : Nat → Value) (W : World) : Mu := .with vs [1, 6, 0] W
abbrev muL (xs : Nat → Int) (W : World) : Mu := muV (fun k => .int .i64 (xs k)) W
theorem atoi_any {s : ByteArray} (h0 : s.size ≤ 18) (h1 : Lib.atoi s.data.toList = none) {W w : World} {vs : Nat → Value} (hm : Known W) (hh : Held (muV vs W) w) {j : J} :
    Calls Tryz.prog 206 [Value.string s].toArray w fun e w' => ∃ v, e = .returned v ∧ RV (muV vs W) j (.tup [.i .i64 0, .ifx]) v ∧ Below w.heap.size w w' := by
  obtain ⟨ev, he, hev⟩ := hm.syn
  refine (Tryz.strconv_Atoi_err s h0 h1 ev w (hh.cell (by simp) he) hev).mono ?_
  rintro e w' ⟨N, rfl, _, _, hb⟩
  exact ⟨_, rfl, ⟨_, rfl, _, _, rfl, rfl, _, _, rfl, ⟨_, _, rfl⟩, rfl⟩, hb⟩
theorem orcI_ok (vs : Nat → Value) {W : World} (hm : Known W) : OrcOK Tryz.prog (muV vs W) orcI := by
  intro f args y hy j w vs hh hv
  unfold orcI at hy
  simp only [selZ_eq] at hy
  split at hy
  · rename_i hf
    obtain rfl := Nat.eq_of_beq_eq_true hf
    split at hy
    · rename_i n v m' u
      split at hy
      · rename_i hle
        cases hy
        obtain ⟨v1, t1, rfl, ⟨s, rfl, rfl, rfl⟩, h2⟩ := hv
        obtain ⟨v2, t2, rfl, ⟨sub, rfl, rfl, rfl⟩, h4⟩ := h2
        cases h4
        have hle' : s.size ≤ 1000000 := by simpa using hle
        obtain ⟨m, hc⟩ := hm.idx
        refine ⟨⟨Tryz.f149, Tryz.func149, rfl, by decide +kernel⟩, (Tryz.stringslite_Index s sub m w (by omega) (hh.cell (by simp) hc)).mono ?_⟩
        rintro e w' ⟨rfl, rfl⟩
        exact ⟨_, rfl, by rw [idxV_eq]; exact rfl, Below.refl _ _⟩
      · cases hy
    · cases hy
  · split at hy
    · rename_i hf
      obtain rfl := Nat.eq_of_beq_eq_true hf
      split at hy
      · rename_i v
        cases hy
        obtain ⟨v1, t1, rfl, ⟨s, rfl, e1, e2⟩, h2⟩ := hv
        cases h2
        have hl : s.data.toList = [] := List.eq_nil_of_length_eq_zero (by rw [Array.length_toList]; exact e1)
        exact ⟨⟨Tryz.f206, Tryz.func206, rfl, by decide +kernel⟩, atoi_any (by omega) (by rw [hl]; rfl) hm hh⟩
      · cases hy
        obtain ⟨v1, t1, rfl, ⟨s, rfl, e1, e2⟩, h2⟩ := hv
        cases h2
        have hl : s.data.toList = [97] := encL_inj (by rw [Array.length_toList]; exact e1) (by rw [e2]; rfl)
        exact ⟨⟨Tryz.f206, Tryz.func206, rfl, by decide +kernel⟩, atoi_any (by omega) (by rw [hl]; decide) hm hh⟩
      · cases hy
    · cases hy
/-- known answers: Low's at the marked numbers, awake's, and those. -/
noncomputable def orcL (ns cs : Nat → Nat) (f : Nat) (l : List AV) : Option AV :=
  selZ (Nat.beq f 5) (match l with
    | [.m k, .i .i64 (.ofNat n)] => if Nat.beq n (ns k) then some (.i .i64 (.ofNat (cs k))) else none
    | _ => none)
  (selZ (Nat.beq f 4) (match l with
    | [] => some (.b true)
    | _ => none)
  (orcI f l))
def AwakeRuns : Prop := isT (evMZ 200 fsT dsT orcI 100000 false 4 [] mem0) = true
theorem awake_any (h : AwakeRuns) {W : World} (hm : Known W) (w : World) (hw : Held (muL (fun _ => 0) W) w) : Calls Tryz.prog 4 #[] w fun e w' => e = .returned (.bool true) ∧ Below w.heap.size w w' := by
  obtain ⟨s, hs⟩ := isT_ok h
  refine (run_okY (μ := muL (fun _ => 0) W) (fun _ => rfl) (orcI_ok _ hm) mixed fsT_ok dsT_ok hs w hw [] rfl).mono ?_
  rintro e w' ⟨j', v, rfl, hv, hr⟩
  cases hv
  exact ⟨rfl, hr.below.to_below⟩
theorem orcL_ok (h : AwakeRuns) (xs : Nat → Int) (ns cs : Nat → Nat) (hc : ∀ k, 0 < ns k ∧ ns k ≤ 4294967296 ∧ lowZ (xs k) (ns k) = cs k) {W : World} (hm : Known W) : OrcOK Tryz.prog (muL xs W) (orcL ns cs) := by
  intro f args y hy j w vs hh hv
  unfold orcL at hy
  simp only [selZ_eq] at hy
  split at hy
  · rename_i hf
    obtain rfl := Nat.eq_of_beq_eq_true hf
    split at hy
    · rename_i k n
      split at hy
      · rename_i hn
        obtain rfl := Nat.eq_of_beq_eq_true hn
        cases hy
        obtain ⟨v, t, rfl, h1, h2⟩ := hv
        obtain ⟨v2, t2, rfl, h3, h4⟩ := h2
        cases h1
        cases h3
        cases h4
        refine ⟨⟨Tryz.f5, Tryz.func5, rfl, by decide +kernel⟩, (low_any (xs k) (ns k) w (hc k).1 (hc k).2.1).mono ?_⟩
        rintro e w' ⟨rfl, rfl⟩
        exact ⟨_, rfl, by show _ = _; rw [(hc k).2.2]; rfl, Below.refl _ _⟩
      · cases hy
    · cases hy
  · split at hy
    · rename_i hf
      obtain rfl := Nat.eq_of_beq_eq_true hf
      split at hy
      · cases hy
        cases hv
        refine ⟨⟨Tryz.f4, Tryz.func4, rfl, by decide +kernel⟩, (awake_any h hm w fun g o hg => hh g o hg).mono ?_⟩
        rintro e w' ⟨rfl, hb⟩
        exact ⟨_, rfl, rfl, hb⟩
      · cases hy
    · exact orcI_ok _ hm f args y hy j w vs hh hv
end Go.Proofs.YtpflpjkbiopmpaaGreatDoor
