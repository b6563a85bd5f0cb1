/-
  The law ConfWrong holds: for every input it returns true, its arguments read behind the call as it read before; the card ties the listed variables to the program's text.
-/
import Derived.Test.YtegaanndakpdmaaGreatDoorCFLaid
import Derived.Test.YtegaanndakpdmaaGreatDoorCFAw
import Derived.Test.YtegaanndakpdmaaGreatDoorConfWrongFacts
import Derived.Test.YtegaanndakpdmaaGreatDoorConfWrongSyn
import Derived.Test.YtegaanndakpdmaaGreatDoorConfWrongC0
import Derived.Test.YtegaanndakpdmaaGreatDoorConfWrongC1
import Derived.Test.YtegaanndakpdmaaGreatDoorConfWrongC2
import Derived.Test.YtegaanndakpdmaaGreatDoorConfWrongC3
set_option linter.unusedVariables false
set_option linter.unusedSimpArgs false
set_option linter.unnecessarySimpa false
set_option linter.all false
namespace Go.Proofs.YtegaanndakpdmaaGreatDoor.confWrong
open Go.ChangeShapes Go.WideShapes Go.ChangeAt Go.RowKit Go.Lib
open Go.ChangeMaps (open_string shut_string)

theorem forms : ∀ c0 c1 : Nat, c0 < 14 → c1 < 3 → ConfWrongRuns c0 c1
  | 0, 0, _, _ => confWrong0_0
  | 0, 1, _, _ => confWrong0_1
  | 0, 2, _, _ => confWrong0_2
  | 1, 0, _, _ => confWrong1_0
  | 1, 1, _, _ => confWrong1_1
  | 1, 2, _, _ => confWrong1_2
  | 2, 0, _, _ => confWrong2_0
  | 2, 1, _, _ => confWrong2_1
  | 2, 2, _, _ => confWrong2_2
  | 3, 0, _, _ => confWrong3_0
  | 3, 1, _, _ => confWrong3_1
  | 3, 2, _, _ => confWrong3_2
  | 4, 0, _, _ => confWrong4_0
  | 4, 1, _, _ => confWrong4_1
  | 4, 2, _, _ => confWrong4_2
  | 5, 0, _, _ => confWrong5_0
  | 5, 1, _, _ => confWrong5_1
  | 5, 2, _, _ => confWrong5_2
  | 6, 0, _, _ => confWrong6_0
  | 6, 1, _, _ => confWrong6_1
  | 6, 2, _, _ => confWrong6_2
  | 7, 0, _, _ => confWrong7_0
  | 7, 1, _, _ => confWrong7_1
  | 7, 2, _, _ => confWrong7_2
  | 8, 0, _, _ => confWrong8_0
  | 8, 1, _, _ => confWrong8_1
  | 8, 2, _, _ => confWrong8_2
  | 9, 0, _, _ => confWrong9_0
  | 9, 1, _, _ => confWrong9_1
  | 9, 2, _, _ => confWrong9_2
  | 10, 0, _, _ => confWrong10_0
  | 10, 1, _, _ => confWrong10_1
  | 10, 2, _, _ => confWrong10_2
  | 11, 0, _, _ => confWrong11_0
  | 11, 1, _, _ => confWrong11_1
  | 11, 2, _, _ => confWrong11_2
  | 12, 0, _, _ => confWrong12_0
  | 12, 1, _, _ => confWrong12_1
  | 12, 2, _, _ => confWrong12_2
  | 13, 0, _, _ => confWrong13_0
  | 13, 1, _, _ => confWrong13_1
  | 13, 2, _, _ => confWrong13_2
  | n + 14, _, h, _ => absurd h (by omega)
  | _, n + 3, _, h => absurd h (by omega)

set_option maxRecDepth 100000 in
theorem contract (H : Type) (enc : TypeId × Value → H) (W : World) (base : Nat) (args : Array Value) (ds gs : List (DataW H)) (before : List MemPlace)
    (hval : ∀ (j : Nat) t v, Tryz.f3.params[j]? = some t → args[j]? = some v → Value.okWide Tryz.prog W .any base t v)
    (hW : DataW.Whole enc Tryz.prog Tryz.f3.params.toList Rows.confWrongSpec.vars false W args.toList ds gs before) (hL : laidMetH Tryz.prog Rows.confWrongRow.laid W) (hsh : W.ShapedOpen Tryz.prog) :
    Calls Tryz.prog 3 args W fun e W' => ∃ v, e = .returned v ∧ Rows.confWrongSpec.post enc Tryz.prog Tryz.f3 false true false false W args v W' := by
  have hW' := hW
  obtain ⟨p, q, hA0, hV, rfl, hfz, hnd⟩ := hW
  have hA : DataW.TrodAll enc Tryz.prog W 0 (fun _ => true) true Tryz.f3.params.toList args.toList ds p := hA0
  rw [Tryz.params3] at hA hval
  obtain ⟨v0, vs0, d0, ds0, p0, q0, hargs, rfl, rfl, h0, r0⟩ := trodAll_cons hA
  obtain ⟨v1, vs1, d1, ds1, p1, q1, rfl, rfl, rfl, h1, r1⟩ := trodAll_cons r0
  obtain ⟨rfl, rfl, rfl⟩ := trodAll_nil r1
  obtain rfl : args = #[v0, v1] := by cases args; simp_all
  obtain ⟨rfl, rfl⟩ := trodVars_none hV
  obtain ⟨x0, rfl, rfl, rfl, wx0⟩ := open_int Tryz.underlying3 (hval 0 3 v0 rfl rfl) h0
  obtain ⟨x1, rfl, rfl, rfl, wx1⟩ := open_int Tryz.underlying3 (hval 1 3 v1 rfl rfl) h1
  clear hA0
  simp only [List.append_nil, List.nil_append] at hW'
  have hm : Known W := ⟨Tryz.laysM219.s1_3 W hsh, syn_known hL⟩
  refine (confWrong_at awakeRuns forms x0 x1  W hm).mono ?_
  rintro e W' ⟨rfl, hb⟩
  refine ⟨_, rfl, _, _, _, [], [] ++ ([] ++ []), [], hW', ?_, ?_, ?_, hb.frame _, fun h => by cases h⟩
  · exact trodAll_mk1 (shut_bool Tryz.underlying4 true)
  · exact trodAll_mk2 (shut_int Tryz.underlying3 wx0) (shut_int Tryz.underlying3 wx1)
  · rfl

theorem reads (os : Os) {H : Type} (enc : TypeId × Value → H) : ∃ places, DataW.whole enc Tryz.prog ((laidWorld os).forCall (fun _ _ => 0) ⟨#[], #[.int .i64 0, .int .i64 0], []⟩).memory Tryz.f3.params.toList Rows.confWrongSpec.vars false #[Value.int .i64 0, Value.int .i64 0].toList 8 = some ([.lit (.int .i64 0), .lit (.int .i64 0)], [], places) :=
  ⟨[], by kernel_rfl⟩

set_option maxRecDepth 100000 in
theorem lifted (os : Os) (started : os.Started) (H : Type) (enc : TypeId × Value → H) (F : Stop.Interp) :
    ReturnsInHanded {} Tryz.checked os 3 .any ((OpenSpec.ofChange Rows.confWrongSpec).preRow enc Tryz.prog Tryz.f3 Rows.confWrongRow.domain false Rows.confWrongRow.laid) (((OpenSpec.ofChange Rows.confWrongSpec).at F).post enc Tryz.prog Tryz.f3 false true false false) := by
  obtain ⟨places, hx⟩ := reads os enc
  refine returnsInHanded_of_row (C := Tryz.checked) (s := OpenSpec.ofChange Rows.confWrongSpec) own started (by kernel_rfl) Tryz.func3
    (witness_row_atRef (enc := enc) (C := Tryz.checked) false (laidWorld os) #[.int .i64 0, .int .i64 0] rfl (by kernel_rfl) (by kernel_rfl) (by kernel_rfl)
      (OpenSpec.preRow_of_cond 8 hx (by kernel_rfl) (fun k hk => by cases hk) (by kernel_rfl) (laid_met os _))) ?_
  intro W base args ds gs before hval hW _ _ _ hL hsh _
  exact contract H enc W base args ds gs before hval hW hL hsh

theorem said : Rows.ConfWrongSaid :=
  OpenClaim.holds_of_cond 3 Tryz.f3 rfl rfl rfl rfl rfl rfl rfl ⟨rfl, rfl, rfl, rfl, rfl⟩ rfl rfl rfl rfl rfl named Tryz.func3 facts
    (of_decide_eq_true (by kernel_rfl)) (by unfold Func.isWrapper; first | (rw [if_pos (by decide +kernel)]; kernel_rfl) | (rw [if_neg (by decide +kernel)]; exact ⟨rfl, rfl⟩))
    (fun os started H enc _ F => by rw [OpenClaim.pre_eq_preRow]; exact lifted os started H enc F)

theorem plain (f : FuncId) (fn : Func) (hf : Tryz.pinned.checked.prog.funcNamed "bosket/bosketlaw21.ConfWrong" = some f) (hfn : Tryz.pinned.checked.prog.funcs[f]? = some fn) :
    true = Tryz.pinned.checked.prog.looks [] ∧ ∀ (j : Nat) t, fn.params[j]? = some t → Tryz.pinned.checked.prog.wantsStandIn t = false := by
  obtain rfl : f = 3 := Option.some.inj ((show Tryz.prog.funcNamed "bosket/bosketlaw21.ConfWrong" = some 3 by kernel_rfl).symm.trans hf) |>.symm
  obtain rfl : fn = Tryz.f3 := (Option.some.inj (Tryz.func3.symm.trans hfn)).symm
  refine ⟨by kernel_rfl, fun j t ht => ?_⟩
  rw [Tryz.params3] at ht
  have ht2 := Array.mem_of_getElem? ht
  simp at ht2
  subst ht2
  exact (show Tryz.prog.wantsStandIn 3 = false by kernel_rfl)

theorem card : Rows.ConfWrongCardSaid :=
  Claim7.holds_tied_plain_at .later [] _ _ _ _ said (fun _ h => by cases h) (by kernel_rfl) (fun _ h => by cases h) confWrong_row_tie rfl ⟨rfl, rfl⟩ (by kernel_rfl) rfl plain (by kernel_rfl)
end Go.Proofs.YtegaanndakpdmaaGreatDoor.confWrong
