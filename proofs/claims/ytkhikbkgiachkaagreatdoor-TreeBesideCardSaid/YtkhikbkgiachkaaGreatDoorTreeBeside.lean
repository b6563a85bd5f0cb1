/-
  The law TreeBeside holds: for every input it returns true, its arguments read behind the call as it read before; the card ties the listed variables to the program's text.
-/
import Derived.Test.YtkhikbkgiachkaaGreatDoorTLaid
import Derived.Test.YtkhikbkgiachkaaGreatDoorTAw
import Derived.Test.YtkhikbkgiachkaaGreatDoorTreeBesideFacts
import Derived.Test.YtkhikbkgiachkaaGreatDoorTreeBesideC0
import Derived.Test.YtkhikbkgiachkaaGreatDoorTreeBesideC1
import Derived.Test.YtkhikbkgiachkaaGreatDoorTreeBesideC2
import Derived.Test.YtkhikbkgiachkaaGreatDoorTreeBesideC3
set_option linter.unusedVariables false
set_option linter.unusedSimpArgs false
set_option linter.unnecessarySimpa false
set_option linter.all false
namespace Go.Proofs.YtkhikbkgiachkaaGreatDoor.treeBeside
open Go.ChangeShapes Go.WideShapes Go.ChangeAt Go.RowKit Go.Lib
open Go.ChangeMaps (open_string shut_string)

theorem forms : ∀ c0 c1 c2 : Nat, c0 < 4 → c1 < 4 → c2 < 3 → ∀ b3 : Bool, TreeBesideRuns c0 c1 c2 b3
  | 0, 0, 0, _, _, _, false => treeBeside0_0_0_f
  | 0, 0, 0, _, _, _, true => treeBeside0_0_0_t
  | 0, 0, 1, _, _, _, false => treeBeside0_0_1_f
  | 0, 0, 1, _, _, _, true => treeBeside0_0_1_t
  | 0, 0, 2, _, _, _, false => treeBeside0_0_2_f
  | 0, 0, 2, _, _, _, true => treeBeside0_0_2_t
  | 0, 1, 0, _, _, _, false => treeBeside0_1_0_f
  | 0, 1, 0, _, _, _, true => treeBeside0_1_0_t
  | 0, 1, 1, _, _, _, false => treeBeside0_1_1_f
  | 0, 1, 1, _, _, _, true => treeBeside0_1_1_t
  | 0, 1, 2, _, _, _, false => treeBeside0_1_2_f
  | 0, 1, 2, _, _, _, true => treeBeside0_1_2_t
  | 0, 2, 0, _, _, _, false => treeBeside0_2_0_f
  | 0, 2, 0, _, _, _, true => treeBeside0_2_0_t
  | 0, 2, 1, _, _, _, false => treeBeside0_2_1_f
  | 0, 2, 1, _, _, _, true => treeBeside0_2_1_t
  | 0, 2, 2, _, _, _, false => treeBeside0_2_2_f
  | 0, 2, 2, _, _, _, true => treeBeside0_2_2_t
  | 0, 3, 0, _, _, _, false => treeBeside0_3_0_f
  | 0, 3, 0, _, _, _, true => treeBeside0_3_0_t
  | 0, 3, 1, _, _, _, false => treeBeside0_3_1_f
  | 0, 3, 1, _, _, _, true => treeBeside0_3_1_t
  | 0, 3, 2, _, _, _, false => treeBeside0_3_2_f
  | 0, 3, 2, _, _, _, true => treeBeside0_3_2_t
  | 1, 0, 0, _, _, _, false => treeBeside1_0_0_f
  | 1, 0, 0, _, _, _, true => treeBeside1_0_0_t
  | 1, 0, 1, _, _, _, false => treeBeside1_0_1_f
  | 1, 0, 1, _, _, _, true => treeBeside1_0_1_t
  | 1, 0, 2, _, _, _, false => treeBeside1_0_2_f
  | 1, 0, 2, _, _, _, true => treeBeside1_0_2_t
  | 1, 1, 0, _, _, _, false => treeBeside1_1_0_f
  | 1, 1, 0, _, _, _, true => treeBeside1_1_0_t
  | 1, 1, 1, _, _, _, false => treeBeside1_1_1_f
  | 1, 1, 1, _, _, _, true => treeBeside1_1_1_t
  | 1, 1, 2, _, _, _, false => treeBeside1_1_2_f
  | 1, 1, 2, _, _, _, true => treeBeside1_1_2_t
  | 1, 2, 0, _, _, _, false => treeBeside1_2_0_f
  | 1, 2, 0, _, _, _, true => treeBeside1_2_0_t
  | 1, 2, 1, _, _, _, false => treeBeside1_2_1_f
  | 1, 2, 1, _, _, _, true => treeBeside1_2_1_t
  | 1, 2, 2, _, _, _, false => treeBeside1_2_2_f
  | 1, 2, 2, _, _, _, true => treeBeside1_2_2_t
  | 1, 3, 0, _, _, _, false => treeBeside1_3_0_f
  | 1, 3, 0, _, _, _, true => treeBeside1_3_0_t
  | 1, 3, 1, _, _, _, false => treeBeside1_3_1_f
  | 1, 3, 1, _, _, _, true => treeBeside1_3_1_t
  | 1, 3, 2, _, _, _, false => treeBeside1_3_2_f
  | 1, 3, 2, _, _, _, true => treeBeside1_3_2_t
  | 2, 0, 0, _, _, _, false => treeBeside2_0_0_f
  | 2, 0, 0, _, _, _, true => treeBeside2_0_0_t
  | 2, 0, 1, _, _, _, false => treeBeside2_0_1_f
  | 2, 0, 1, _, _, _, true => treeBeside2_0_1_t
  | 2, 0, 2, _, _, _, false => treeBeside2_0_2_f
  | 2, 0, 2, _, _, _, true => treeBeside2_0_2_t
  | 2, 1, 0, _, _, _, false => treeBeside2_1_0_f
  | 2, 1, 0, _, _, _, true => treeBeside2_1_0_t
  | 2, 1, 1, _, _, _, false => treeBeside2_1_1_f
  | 2, 1, 1, _, _, _, true => treeBeside2_1_1_t
  | 2, 1, 2, _, _, _, false => treeBeside2_1_2_f
  | 2, 1, 2, _, _, _, true => treeBeside2_1_2_t
  | 2, 2, 0, _, _, _, false => treeBeside2_2_0_f
  | 2, 2, 0, _, _, _, true => treeBeside2_2_0_t
  | 2, 2, 1, _, _, _, false => treeBeside2_2_1_f
  | 2, 2, 1, _, _, _, true => treeBeside2_2_1_t
  | 2, 2, 2, _, _, _, false => treeBeside2_2_2_f
  | 2, 2, 2, _, _, _, true => treeBeside2_2_2_t
  | 2, 3, 0, _, _, _, false => treeBeside2_3_0_f
  | 2, 3, 0, _, _, _, true => treeBeside2_3_0_t
  | 2, 3, 1, _, _, _, false => treeBeside2_3_1_f
  | 2, 3, 1, _, _, _, true => treeBeside2_3_1_t
  | 2, 3, 2, _, _, _, false => treeBeside2_3_2_f
  | 2, 3, 2, _, _, _, true => treeBeside2_3_2_t
  | 3, 0, 0, _, _, _, false => treeBeside3_0_0_f
  | 3, 0, 0, _, _, _, true => treeBeside3_0_0_t
  | 3, 0, 1, _, _, _, false => treeBeside3_0_1_f
  | 3, 0, 1, _, _, _, true => treeBeside3_0_1_t
  | 3, 0, 2, _, _, _, false => treeBeside3_0_2_f
  | 3, 0, 2, _, _, _, true => treeBeside3_0_2_t
  | 3, 1, 0, _, _, _, false => treeBeside3_1_0_f
  | 3, 1, 0, _, _, _, true => treeBeside3_1_0_t
  | 3, 1, 1, _, _, _, false => treeBeside3_1_1_f
  | 3, 1, 1, _, _, _, true => treeBeside3_1_1_t
  | 3, 1, 2, _, _, _, false => treeBeside3_1_2_f
  | 3, 1, 2, _, _, _, true => treeBeside3_1_2_t
  | 3, 2, 0, _, _, _, false => treeBeside3_2_0_f
  | 3, 2, 0, _, _, _, true => treeBeside3_2_0_t
  | 3, 2, 1, _, _, _, false => treeBeside3_2_1_f
  | 3, 2, 1, _, _, _, true => treeBeside3_2_1_t
  | 3, 2, 2, _, _, _, false => treeBeside3_2_2_f
  | 3, 2, 2, _, _, _, true => treeBeside3_2_2_t
  | 3, 3, 0, _, _, _, false => treeBeside3_3_0_f
  | 3, 3, 0, _, _, _, true => treeBeside3_3_0_t
  | 3, 3, 1, _, _, _, false => treeBeside3_3_1_f
  | 3, 3, 1, _, _, _, true => treeBeside3_3_1_t
  | 3, 3, 2, _, _, _, false => treeBeside3_3_2_f
  | 3, 3, 2, _, _, _, true => treeBeside3_3_2_t
  | n + 4, _, _, h, _, _, _ => absurd h (by omega)
  | _, n + 4, _, _, h, _, _ => absurd h (by omega)
  | _, _, n + 3, _, _, h, _ => absurd h (by omega)

set_option maxRecDepth 100000 in
theorem contract (H : Type) (enc : TypeId × Value → H) (W : World) (base : Nat) (args : Array Value) (ds gs : List (DataW H)) (before : List MemPlace)
    (hval : ∀ (j : Nat) t v, Tryz.f3.params[j]? = some t → args[j]? = some v → Value.okWide Tryz.prog W .any base t v)
    (hW : DataW.Whole enc Tryz.prog Tryz.f3.params.toList Rows.treeBesideSpec.vars false W args.toList ds gs before) (hL : laidMetH Tryz.prog Rows.treeBesideRow.laid W) :
    Calls Tryz.prog 3 args W fun e W' => ∃ v, e = .returned v ∧ Rows.treeBesideSpec.post enc Tryz.prog Tryz.f3 false true false false W args v W' := by
  have hW' := hW
  obtain ⟨p, q, hA0, hV, rfl, hfz, hnd⟩ := hW
  have hA : DataW.TrodAll enc Tryz.prog W 0 (fun _ => true) true Tryz.f3.params.toList args.toList ds p := hA0
  rw [Tryz.params3] at hA hval
  obtain ⟨v0, vs0, d0, ds0, p0, q0, hargs, rfl, rfl, h0, r0⟩ := trodAll_cons hA
  obtain ⟨v1, vs1, d1, ds1, p1, q1, rfl, rfl, rfl, h1, r1⟩ := trodAll_cons r0
  obtain ⟨v2, vs2, d2, ds2, p2, q2, rfl, rfl, rfl, h2, r2⟩ := trodAll_cons r1
  obtain ⟨v3, vs3, d3, ds3, p3, q3, rfl, rfl, rfl, h3, r3⟩ := trodAll_cons r2
  obtain ⟨rfl, rfl, rfl⟩ := trodAll_nil r3
  obtain rfl : args = #[v0, v1, v2, v3] := by cases args; simp_all
  obtain ⟨rfl, rfl⟩ := trodVars_none hV
  obtain ⟨x0, rfl, rfl, rfl, wx0⟩ := open_int Tryz.underlying3 (hval 0 3 v0 rfl rfl) h0
  obtain ⟨x1, rfl, rfl, rfl, wx1⟩ := open_int Tryz.underlying3 (hval 1 3 v1 rfl rfl) h1
  obtain ⟨x2, rfl, rfl, rfl, wx2⟩ := open_int Tryz.underlying3 (hval 2 3 v2 rfl rfl) h2
  obtain ⟨b3, rfl, rfl, rfl⟩ := open_bool Tryz.underlying4 (hval 3 4 v3 rfl rfl) h3
  clear hA0
  simp only [List.append_nil, List.nil_append] at hW'
  refine (treeBeside_at awakeRuns forms x0 x1 x2 b3 W).mono ?_
  rintro e W' ⟨rfl, hb⟩
  refine ⟨_, rfl, _, _, _, [], [] ++ ([] ++ ([] ++ ([] ++ []))), [], hW', ?_, ?_, ?_, hb.frame _, fun h => by cases h⟩
  · exact trodAll_mk1 (shut_bool Tryz.underlying4 true)
  · exact trodAll_mk4 (shut_int Tryz.underlying3 wx0) (shut_int Tryz.underlying3 wx1) (shut_int Tryz.underlying3 wx2) (shut_bool Tryz.underlying4 b3)
  · rfl

theorem reads (os : Os) {H : Type} (enc : TypeId × Value → H) : ∃ places, DataW.whole enc Tryz.prog ((laidWorld os).forCall (fun _ _ => 0) ⟨#[], #[.int .i64 0, .int .i64 0, .int .i64 0, .bool false], []⟩).memory Tryz.f3.params.toList Rows.treeBesideSpec.vars false #[Value.int .i64 0, Value.int .i64 0, Value.int .i64 0, Value.bool false].toList 8 = some ([.lit (.int .i64 0), .lit (.int .i64 0), .lit (.int .i64 0), .lit (.bool false)], [], places) :=
  ⟨[], by kernel_rfl⟩

set_option maxRecDepth 100000 in
theorem lifted (os : Os) (started : os.Started) (H : Type) (enc : TypeId × Value → H) (F : Stop.Interp) :
    ReturnsInHanded {} Tryz.checked os 3 .any ((OpenSpec.ofChange Rows.treeBesideSpec).preRow enc Tryz.prog Tryz.f3 Rows.treeBesideRow.domain false Rows.treeBesideRow.laid) (((OpenSpec.ofChange Rows.treeBesideSpec).at F).post enc Tryz.prog Tryz.f3 false true false false) := by
  obtain ⟨places, hx⟩ := reads os enc
  refine returnsInHanded_of_row (C := Tryz.checked) (s := OpenSpec.ofChange Rows.treeBesideSpec) own started (by kernel_rfl) Tryz.func3
    (witness_row_atRef (enc := enc) (C := Tryz.checked) false (laidWorld os) #[.int .i64 0, .int .i64 0, .int .i64 0, .bool false] rfl (by kernel_rfl) (by kernel_rfl) (by kernel_rfl)
      (OpenSpec.preRow_of_cond 8 hx (by kernel_rfl) (fun k hk => by cases hk) (by kernel_rfl) (laid_met os _))) ?_
  intro W base args ds gs before hval hW _ _ _ hL _ _
  exact contract H enc W base args ds gs before hval hW hL

theorem said : Rows.TreeBesideSaid :=
  OpenClaim.holds_of_cond 3 Tryz.f3 rfl rfl rfl rfl rfl rfl rfl ⟨rfl, rfl, rfl, rfl, rfl⟩ rfl rfl rfl rfl rfl named Tryz.func3 facts
    (of_decide_eq_true (by kernel_rfl)) (by unfold Func.isWrapper; first | (rw [if_pos (by decide +kernel)]; kernel_rfl) | (rw [if_neg (by decide +kernel)]; exact ⟨rfl, rfl⟩))
    (fun os started H enc _ F => by rw [OpenClaim.pre_eq_preRow]; exact lifted os started H enc F)

theorem plain (f : FuncId) (fn : Func) (hf : Tryz.pinned.checked.prog.funcNamed "bosket/bosketlaw17.TreeBeside" = some f) (hfn : Tryz.pinned.checked.prog.funcs[f]? = some fn) :
    true = Tryz.pinned.checked.prog.looks [] ∧ ∀ (j : Nat) t, fn.params[j]? = some t → Tryz.pinned.checked.prog.wantsStandIn t = false := by
  obtain rfl : f = 3 := Option.some.inj ((show Tryz.prog.funcNamed "bosket/bosketlaw17.TreeBeside" = some 3 by kernel_rfl).symm.trans hf) |>.symm
  obtain rfl : fn = Tryz.f3 := (Option.some.inj (Tryz.func3.symm.trans hfn)).symm
  refine ⟨by kernel_rfl, fun j t ht => ?_⟩
  rw [Tryz.params3] at ht
  have ht2 := Array.mem_of_getElem? ht
  simp at ht2
  rcases ht2 with rfl | rfl
  · exact (show Tryz.prog.wantsStandIn 3 = false by kernel_rfl)
  · exact (show Tryz.prog.wantsStandIn 4 = false by kernel_rfl)

theorem card : Rows.TreeBesideCardSaid :=
  Claim7.holds_tied_plain_at .later [] _ _ _ _ said (fun _ h => by cases h) (by kernel_rfl) (fun _ h => by cases h) treeBeside_row_tie rfl ⟨rfl, rfl⟩ (by kernel_rfl) rfl plain (by kernel_rfl)
end Go.Proofs.YtkhikbkgiachkaaGreatDoor.treeBeside
