/-
  The law GrapTags holds: for every input it returns true, its arguments read behind the call as it read before; the card ties the listed variables to the program's text.
-/
import Derived.Test.YtaicmladpjbjdaaGreatDoorGTLaid
import Derived.Test.YtaicmladpjbjdaaGreatDoorGTAw
import Derived.Test.YtaicmladpjbjdaaGreatDoorGrapTagsFacts
import Derived.Test.YtaicmladpjbjdaaGreatDoorGrapTagsC0
import Derived.Test.YtaicmladpjbjdaaGreatDoorGrapTagsC1
import Derived.Test.YtaicmladpjbjdaaGreatDoorGrapTagsC2
import Derived.Test.YtaicmladpjbjdaaGreatDoorGrapTagsC3
set_option linter.unusedVariables false
set_option linter.unusedSimpArgs false
set_option linter.unnecessarySimpa false
set_option linter.all false
namespace Go.Proofs.YtaicmladpjbjdaaGreatDoor.grapTags
open Go.ChangeShapes Go.WideShapes Go.ChangeAt Go.RowKit Go.Lib
open Go.ChangeMaps (open_string shut_string)

theorem forms : ∀ c0 c1 : Nat, c0 < 10 → c1 < 7 → GrapTagsRuns c0 c1
  | 0, 0, _, _ => grapTags0_0
  | 0, 1, _, _ => grapTags0_1
  | 0, 2, _, _ => grapTags0_2
  | 0, 3, _, _ => grapTags0_3
  | 0, 4, _, _ => grapTags0_4
  | 0, 5, _, _ => grapTags0_5
  | 0, 6, _, _ => grapTags0_6
  | 1, 0, _, _ => grapTags1_0
  | 1, 1, _, _ => grapTags1_1
  | 1, 2, _, _ => grapTags1_2
  | 1, 3, _, _ => grapTags1_3
  | 1, 4, _, _ => grapTags1_4
  | 1, 5, _, _ => grapTags1_5
  | 1, 6, _, _ => grapTags1_6
  | 2, 0, _, _ => grapTags2_0
  | 2, 1, _, _ => grapTags2_1
  | 2, 2, _, _ => grapTags2_2
  | 2, 3, _, _ => grapTags2_3
  | 2, 4, _, _ => grapTags2_4
  | 2, 5, _, _ => grapTags2_5
  | 2, 6, _, _ => grapTags2_6
  | 3, 0, _, _ => grapTags3_0
  | 3, 1, _, _ => grapTags3_1
  | 3, 2, _, _ => grapTags3_2
  | 3, 3, _, _ => grapTags3_3
  | 3, 4, _, _ => grapTags3_4
  | 3, 5, _, _ => grapTags3_5
  | 3, 6, _, _ => grapTags3_6
  | 4, 0, _, _ => grapTags4_0
  | 4, 1, _, _ => grapTags4_1
  | 4, 2, _, _ => grapTags4_2
  | 4, 3, _, _ => grapTags4_3
  | 4, 4, _, _ => grapTags4_4
  | 4, 5, _, _ => grapTags4_5
  | 4, 6, _, _ => grapTags4_6
  | 5, 0, _, _ => grapTags5_0
  | 5, 1, _, _ => grapTags5_1
  | 5, 2, _, _ => grapTags5_2
  | 5, 3, _, _ => grapTags5_3
  | 5, 4, _, _ => grapTags5_4
  | 5, 5, _, _ => grapTags5_5
  | 5, 6, _, _ => grapTags5_6
  | 6, 0, _, _ => grapTags6_0
  | 6, 1, _, _ => grapTags6_1
  | 6, 2, _, _ => grapTags6_2
  | 6, 3, _, _ => grapTags6_3
  | 6, 4, _, _ => grapTags6_4
  | 6, 5, _, _ => grapTags6_5
  | 6, 6, _, _ => grapTags6_6
  | 7, 0, _, _ => grapTags7_0
  | 7, 1, _, _ => grapTags7_1
  | 7, 2, _, _ => grapTags7_2
  | 7, 3, _, _ => grapTags7_3
  | 7, 4, _, _ => grapTags7_4
  | 7, 5, _, _ => grapTags7_5
  | 7, 6, _, _ => grapTags7_6
  | 8, 0, _, _ => grapTags8_0
  | 8, 1, _, _ => grapTags8_1
  | 8, 2, _, _ => grapTags8_2
  | 8, 3, _, _ => grapTags8_3
  | 8, 4, _, _ => grapTags8_4
  | 8, 5, _, _ => grapTags8_5
  | 8, 6, _, _ => grapTags8_6
  | 9, 0, _, _ => grapTags9_0
  | 9, 1, _, _ => grapTags9_1
  | 9, 2, _, _ => grapTags9_2
  | 9, 3, _, _ => grapTags9_3
  | 9, 4, _, _ => grapTags9_4
  | 9, 5, _, _ => grapTags9_5
  | 9, 6, _, _ => grapTags9_6
  | n + 10, _, h, _ => absurd h (by omega)
  | _, n + 7, _, h => absurd h (by omega)

set_option maxRecDepth 100000 in
theorem contract (H : Type) (enc : TypeId × Value → H) (W : World) (base : Nat) (args : Array Value) (ds gs : List (DataW H)) (before : List MemPlace)
    (hval : ∀ (j : Nat) t v, Tryz.f3.params[j]? = some t → args[j]? = some v → Value.okWide Tryz.prog W .any base t v)
    (hW : DataW.Whole enc Tryz.prog Tryz.f3.params.toList Rows.grapTagsSpec.vars false W args.toList ds gs before) (hL : laidMetH Tryz.prog Rows.grapTagsRow.laid W) :
    Calls Tryz.prog 3 args W fun e W' => ∃ v, e = .returned v ∧ Rows.grapTagsSpec.post enc Tryz.prog Tryz.f3 false true false false W args v W' := by
  have hW' := hW
  obtain ⟨p, q, hA0, hV, rfl, hfz, hnd⟩ := hW
  have hA : DataW.TrodAll enc Tryz.prog W 0 (fun _ => true) true Tryz.f3.params.toList args.toList ds p := hA0
  rw [Tryz.params3] at hA hval
  obtain ⟨v0, vs0, d0, ds0, p0, q0, hargs, rfl, rfl, h0, r0⟩ := trodAll_cons hA
  obtain ⟨v1, vs1, d1, ds1, p1, q1, rfl, rfl, rfl, h1, r1⟩ := trodAll_cons r0
  obtain ⟨rfl, rfl, rfl⟩ := trodAll_nil r1
  obtain rfl : args = #[v0, v1] := by cases args; simp_all
  obtain ⟨rfl, rfl⟩ := trodVars_none hV
  obtain ⟨x0, rfl, rfl, rfl, wx0⟩ := open_int Tryz.underlying3 (hval 0 3 v0 rfl rfl) h0
  obtain ⟨x1, rfl, rfl, rfl, wx1⟩ := open_int Tryz.underlying3 (hval 1 3 v1 rfl rfl) h1
  clear hA0
  simp only [List.append_nil, List.nil_append] at hW'
  refine (grapTags_at awakeRuns forms x0 x1  W).mono ?_
  rintro e W' ⟨rfl, hb⟩
  refine ⟨_, rfl, _, _, _, [], [] ++ ([] ++ []), [], hW', ?_, ?_, ?_, hb.frame _, fun h => by cases h⟩
  · exact trodAll_mk1 (shut_bool Tryz.underlying4 true)
  · exact trodAll_mk2 (shut_int Tryz.underlying3 wx0) (shut_int Tryz.underlying3 wx1)
  · rfl

theorem reads (os : Os) {H : Type} (enc : TypeId × Value → H) : ∃ places, DataW.whole enc Tryz.prog ((laidWorld os).forCall (fun _ _ => 0) ⟨#[], #[.int .i64 0, .int .i64 0], []⟩).memory Tryz.f3.params.toList Rows.grapTagsSpec.vars false #[Value.int .i64 0, Value.int .i64 0].toList 8 = some ([.lit (.int .i64 0), .lit (.int .i64 0)], [], places) :=
  ⟨[], by kernel_rfl⟩

set_option maxRecDepth 100000 in
theorem lifted (os : Os) (started : os.Started) (H : Type) (enc : TypeId × Value → H) (F : Stop.Interp) :
    ReturnsInHanded {} Tryz.checked os 3 .any ((OpenSpec.ofChange Rows.grapTagsSpec).preRow enc Tryz.prog Tryz.f3 Rows.grapTagsRow.domain false Rows.grapTagsRow.laid) (((OpenSpec.ofChange Rows.grapTagsSpec).at F).post enc Tryz.prog Tryz.f3 false true false false) := by
  obtain ⟨places, hx⟩ := reads os enc
  refine returnsInHanded_of_row (C := Tryz.checked) (s := OpenSpec.ofChange Rows.grapTagsSpec) own started (by kernel_rfl) Tryz.func3
    (witness_row_atRef (enc := enc) (C := Tryz.checked) false (laidWorld os) #[.int .i64 0, .int .i64 0] rfl (by kernel_rfl) (by kernel_rfl) (by kernel_rfl)
      (OpenSpec.preRow_of_cond 8 hx (by kernel_rfl) (fun k hk => by cases hk) (by kernel_rfl) (laid_met os _))) ?_
  intro W base args ds gs before hval hW _ _ _ hL _ _
  exact contract H enc W base args ds gs before hval hW hL

theorem said : Rows.GrapTagsSaid :=
  OpenClaim.holds_of_cond 3 Tryz.f3 rfl rfl rfl rfl rfl rfl rfl ⟨rfl, rfl, rfl, rfl, rfl⟩ rfl rfl rfl rfl rfl named Tryz.func3 facts
    (of_decide_eq_true (by kernel_rfl)) (by unfold Func.isWrapper; first | (rw [if_pos (by decide +kernel)]; kernel_rfl) | (rw [if_neg (by decide +kernel)]; exact ⟨rfl, rfl⟩))
    (fun os started H enc _ F => by rw [OpenClaim.pre_eq_preRow]; exact lifted os started H enc F)

theorem plain (f : FuncId) (fn : Func) (hf : Tryz.pinned.checked.prog.funcNamed "bosket/bosketlaw20.GrapTags" = some f) (hfn : Tryz.pinned.checked.prog.funcs[f]? = some fn) :
    true = Tryz.pinned.checked.prog.looks [] ∧ ∀ (j : Nat) t, fn.params[j]? = some t → Tryz.pinned.checked.prog.wantsStandIn t = false := by
  obtain rfl : f = 3 := Option.some.inj ((show Tryz.prog.funcNamed "bosket/bosketlaw20.GrapTags" = some 3 by kernel_rfl).symm.trans hf) |>.symm
  obtain rfl : fn = Tryz.f3 := (Option.some.inj (Tryz.func3.symm.trans hfn)).symm
  refine ⟨by kernel_rfl, fun j t ht => ?_⟩
  rw [Tryz.params3] at ht
  have ht2 := Array.mem_of_getElem? ht
  simp at ht2
  subst ht2
  exact (show Tryz.prog.wantsStandIn 3 = false by kernel_rfl)

theorem card : Rows.GrapTagsCardSaid :=
  Claim7.holds_tied_plain_at .later [] _ _ _ _ said (fun _ h => by cases h) (by kernel_rfl) (fun _ h => by cases h) grapTags_row_tie rfl ⟨rfl, rfl⟩ (by kernel_rfl) rfl plain (by kernel_rfl)
end Go.Proofs.YtaicmladpjbjdaaGreatDoor.grapTags
