/-
  ToolConf as runs, by the words, at widths of so many digits.
-/
import Derived.Test.YtpflpjkbiopmpaaGreatDoorQOrc
set_option linter.unusedVariables false
set_option linter.unusedSimpArgs false
set_option linter.unnecessarySimpa false
set_option linter.all false
namespace Go.Proofs.YtpflpjkbiopmpaaGreatDoor
open Go.RowKit Ev
noncomputable def tcT (q : Nat) (a b c d e : Bool) : Bool := isT (evMZ 400 fsT dsT (orcT q) 1000000 false 3 [.agg [.b a, .b b, .b c, .b d, .b e], .m 0, .m 1, .m 2, .fs 20 21 0 20] mem0)
noncomputable def orcA (f : Nat) (l : List AV) : Option AV := if Nat.beq f 4 then (match l with
    | [] => some (.b true)
    | _ => none) else orcI f l
noncomputable def tcL : Bool := isT (evMZ 400 fsT dsT orcA 1000000 false 3 [.agg [.m 22, .m 23, .m 24, .m 25, .m 26], .m 0, .m 1, .m 2, .fs 20 21 21 9223372036854775807] mem0)
theorem orcA_ok (h : AwakeRuns) (vs : Nat → Value) {W : World} (hm : Known W) : OrcOK Tryz.prog (muV vs W) orcA := by
  intro f args y hy j w vs' hh hv
  unfold orcA at hy
  split at hy
  · rename_i hf
    obtain rfl := Nat.eq_of_beq_eq_true hf
    split at hy
    · cases hy
      cases hv
      refine ⟨⟨Tryz.f4, Tryz.func4, rfl, by decide +kernel⟩, (awake_any h hm w fun g o hg => hh g o hg).mono ?_⟩
      rintro e w' ⟨rfl, hb⟩
      exact ⟨_, rfl, rfl, hb⟩
    · cases hy
  · exact orcI_ok _ hm f args y hy j w vs' hh hv
def vsL (x y z : Int) (bs : Value) (a b c d e : Bool) : Nat → Value
  | 0 => .int .i64 x
  | 1 => .int .i64 y
  | 2 => .int .i64 z
  | 20 => bs
  | 21 => (match bs with | .slice _ len _ => .int .i64 len | _ => .int .i64 0)
  | 22 => .bool a
  | 23 => .bool b
  | 24 => .bool c
  | 25 => .bool d
  | 26 => .bool e
  | _ => .int .i64 0
/-- all the runs. -/
structure TcRuns : Prop where
  long : tcL = true
  all : ∀ q a b c d e, (q = 1 ∨ q = 2 ∨ q = 3 ∨ q = 4 ∨ q = 5) → tcT q a b c d e = true
theorem width_class (c : Nat) (h : c < 10000) : ∃ q, (q = 1 ∨ q = 2 ∨ q = 3 ∨ q = 4 ∨ q = 5) ∧ lowW q ≤ c + 1 ∧ c + 1 ≤ higW q := by
  by_cases h1 : c + 1 ≤ 9
  · exact ⟨1, by simp, by show 1 ≤ c + 1; omega, h1⟩
  by_cases h2 : c + 1 ≤ 99
  · exact ⟨2, by simp, by show 10 ≤ c + 1; omega, h2⟩
  by_cases h3 : c + 1 ≤ 999
  · exact ⟨3, by simp, by show 100 ≤ c + 1; omega, h3⟩
  by_cases h4 : c + 1 ≤ 9999
  · exact ⟨4, by simp, by show 1000 ≤ c + 1; omega, h4⟩
  · exact ⟨5, by simp, by show 10000 ≤ c + 1; omega, by show c + 1 ≤ 10000; omega⟩
theorem marksT {q : Nat} {x y z : Int} {A : Option Addr} {m cp : Nat} {wi n k : Nat} {W : World} : Marks (muV (vsT q x y z (.slice A m cp) wi n k) W) := by
  intro i
  show (vsT q x y z (.slice A m cp) wi n k i).oneCell' = true
  unfold vsT
  split <;> rfl
theorem marksL {x y z : Int} {A : Option Addr} {m cp : Nat} {a b c d e : Bool} {W : World} : Marks (muV (vsL x y z (.slice A m cp) a b c d e) W) := by
  intro i
  show (vsL x y z (.slice A m cp) a b c d e i).oneCell' = true
  unfold vsL
  split <;> rfl
theorem toolConf_at (ha : AwakeRuns) (hr : TcRuns) (a b c d e : Bool) (x y z : Int) (A : Option Addr) (m cp : Nat) (hlen : m ≤ 9223372036854775807) (W : World) (hm : Known W) (hp : Pow W) :
    Calls Tryz.prog 3 #[.agg #[.bool a, .bool b, .bool c, .bool d, .bool e], .int .i64 x, .int .i64 y, .int .i64 z, .slice A m cp] W fun e w' => e = .returned (.bool true) ∧ Below W.heap.size W w' := by
  by_cases hl : m ≤ 20
  · obtain ⟨wc, hx, hx1⟩ := low_nat x 10000 (by decide) (by decide)
    obtain ⟨nc, hy, hy1⟩ := low_nat y 9 (by decide) (by decide)
    obtain ⟨kc, hz, hz1⟩ := low_nat z 10 (by decide) (by decide)
    obtain ⟨q, hq, w0, w1⟩ := width_class wc hx1
    have hN : Nums q x y z (.slice A m cp) (wc + 1) (nc + 1) kc := ⟨hq, hx, hy, hz, w0, w1, by omega, by omega, by omega⟩
    obtain ⟨s, hs⟩ := isT_ok (hr.all q a b c d e hq)
    refine (run_okY (μ := muV (vsT q x y z (.slice A m cp) (wc + 1) (nc + 1) kc) W) marksT (orcT_ok ha hN hm hp) mixed fsT_ok dsT_ok hs W Held.with [.agg #[.bool a, .bool b, .bool c, .bool d, .bool e], .int .i64 x, .int .i64 y, .int .i64 z, .slice A m cp]
      ⟨_, _, rfl, ⟨_, rfl, _, _, rfl, rfl, _, _, rfl, rfl, _, _, rfl, rfl, _, _, rfl, rfl, _, _, rfl, rfl, rfl⟩, _, _, rfl, rfl, _, _, rfl, rfl, _, _, rfl, rfl, _, _, rfl, ⟨rfl, A, m, cp, rfl, .of (d0 := .i64) rfl (by decide), by omega, hl⟩, rfl⟩).mono ?_
    rintro e w' ⟨j', v, rfl, hv, hr⟩
    cases hv
    exact ⟨rfl, hr.below.to_below⟩
  · obtain ⟨s, hs⟩ := isT_ok hr.long
    refine (run_okY (μ := muV (vsL x y z (.slice A m cp) a b c d e) W) marksL (orcA_ok ha _ hm) mixed fsT_ok dsT_ok hs W Held.with [.agg #[.bool a, .bool b, .bool c, .bool d, .bool e], .int .i64 x, .int .i64 y, .int .i64 z, .slice A m cp]
      ⟨_, _, rfl, ⟨_, rfl, _, _, rfl, rfl, _, _, rfl, rfl, _, _, rfl, rfl, _, _, rfl, rfl, _, _, rfl, rfl, rfl⟩, _, _, rfl, rfl, _, _, rfl, rfl, _, _, rfl, rfl, _, _, rfl, ⟨rfl, A, m, cp, rfl, .of (d0 := .i64) rfl (by decide), by omega, hlen⟩, rfl⟩).mono ?_
    rintro e w' ⟨j', v, rfl, hv, hr⟩
    cases hv
    exact ⟨rfl, hr.below.to_below⟩
end Go.Proofs.YtpflpjkbiopmpaaGreatDoor
