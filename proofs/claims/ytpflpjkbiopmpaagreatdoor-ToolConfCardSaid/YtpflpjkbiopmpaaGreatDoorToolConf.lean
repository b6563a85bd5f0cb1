/-
  The law ToolConf holds: for every input it returns true, its arguments read behind the call as it read before; the card ties the listed variables to the program's text.
-/
import Derived.Test.YtpflpjkbiopmpaaGreatDoorQLaid
import Derived.Test.YtpflpjkbiopmpaaGreatDoorQAw
import Derived.Test.YtpflpjkbiopmpaaGreatDoorToolConfFacts
import Derived.Test.YtpflpjkbiopmpaaGreatDoorToolConfSyn
import Derived.Test.YtpflpjkbiopmpaaGreatDoorQC0
import Derived.Test.YtpflpjkbiopmpaaGreatDoorQC1
import Derived.Test.YtpflpjkbiopmpaaGreatDoorQC2
import Derived.Test.YtpflpjkbiopmpaaGreatDoorQC3
import Derived.Test.YtpflpjkbiopmpaaGreatDoorQC4
import Derived.Test.YtpflpjkbiopmpaaGreatDoorQC5
import Derived.Test.YtpflpjkbiopmpaaGreatDoorQC6
import Derived.Test.YtpflpjkbiopmpaaGreatDoorQC7
import Derived.Test.YtpflpjkbiopmpaaGreatDoorQC8
import Derived.Test.YtpflpjkbiopmpaaGreatDoorQC9
import Derived.Test.YtpflpjkbiopmpaaGreatDoorQC10
import Derived.Test.YtpflpjkbiopmpaaGreatDoorQC11
import Derived.Test.YtpflpjkbiopmpaaGreatDoorQC12
import Derived.Test.YtpflpjkbiopmpaaGreatDoorQC13
set_option linter.unusedVariables false
set_option linter.unusedSimpArgs false
set_option linter.unnecessarySimpa false
set_option linter.all false
namespace Go.Proofs.YtpflpjkbiopmpaaGreatDoor.toolConf
open Go.ChangeShapes Go.WideShapes Go.ChangeAt Go.RowKit Go.Lib
open Go.ChangeMaps (open_string shut_string)

theorem w1 : ∀ a b c d e, tcT 1 a b c d e = true
  | false, false, false, false, false => tc1_00000
  | false, false, false, false, true => tc1_00001
  | false, false, false, true, false => tc1_00010
  | false, false, false, true, true => tc1_00011
  | false, false, true, false, false => tc1_00100
  | false, false, true, false, true => tc1_00101
  | false, false, true, true, false => tc1_00110
  | false, false, true, true, true => tc1_00111
  | false, true, false, false, false => tc1_01000
  | false, true, false, false, true => tc1_01001
  | false, true, false, true, false => tc1_01010
  | false, true, false, true, true => tc1_01011
  | false, true, true, false, false => tc1_01100
  | false, true, true, false, true => tc1_01101
  | false, true, true, true, false => tc1_01110
  | false, true, true, true, true => tc1_01111
  | true, false, false, false, false => tc1_10000
  | true, false, false, false, true => tc1_10001
  | true, false, false, true, false => tc1_10010
  | true, false, false, true, true => tc1_10011
  | true, false, true, false, false => tc1_10100
  | true, false, true, false, true => tc1_10101
  | true, false, true, true, false => tc1_10110
  | true, false, true, true, true => tc1_10111
  | true, true, false, false, false => tc1_11000
  | true, true, false, false, true => tc1_11001
  | true, true, false, true, false => tc1_11010
  | true, true, false, true, true => tc1_11011
  | true, true, true, false, false => tc1_11100
  | true, true, true, false, true => tc1_11101
  | true, true, true, true, false => tc1_11110
  | true, true, true, true, true => tc1_11111
theorem w2 : ∀ a b c d e, tcT 2 a b c d e = true
  | false, false, false, false, false => tc2_00000
  | false, false, false, false, true => tc2_00001
  | false, false, false, true, false => tc2_00010
  | false, false, false, true, true => tc2_00011
  | false, false, true, false, false => tc2_00100
  | false, false, true, false, true => tc2_00101
  | false, false, true, true, false => tc2_00110
  | false, false, true, true, true => tc2_00111
  | false, true, false, false, false => tc2_01000
  | false, true, false, false, true => tc2_01001
  | false, true, false, true, false => tc2_01010
  | false, true, false, true, true => tc2_01011
  | false, true, true, false, false => tc2_01100
  | false, true, true, false, true => tc2_01101
  | false, true, true, true, false => tc2_01110
  | false, true, true, true, true => tc2_01111
  | true, false, false, false, false => tc2_10000
  | true, false, false, false, true => tc2_10001
  | true, false, false, true, false => tc2_10010
  | true, false, false, true, true => tc2_10011
  | true, false, true, false, false => tc2_10100
  | true, false, true, false, true => tc2_10101
  | true, false, true, true, false => tc2_10110
  | true, false, true, true, true => tc2_10111
  | true, true, false, false, false => tc2_11000
  | true, true, false, false, true => tc2_11001
  | true, true, false, true, false => tc2_11010
  | true, true, false, true, true => tc2_11011
  | true, true, true, false, false => tc2_11100
  | true, true, true, false, true => tc2_11101
  | true, true, true, true, false => tc2_11110
  | true, true, true, true, true => tc2_11111
theorem w3 : ∀ a b c d e, tcT 3 a b c d e = true
  | false, false, false, false, false => tc3_00000
  | false, false, false, false, true => tc3_00001
  | false, false, false, true, false => tc3_00010
  | false, false, false, true, true => tc3_00011
  | false, false, true, false, false => tc3_00100
  | false, false, true, false, true => tc3_00101
  | false, false, true, true, false => tc3_00110
  | false, false, true, true, true => tc3_00111
  | false, true, false, false, false => tc3_01000
  | false, true, false, false, true => tc3_01001
  | false, true, false, true, false => tc3_01010
  | false, true, false, true, true => tc3_01011
  | false, true, true, false, false => tc3_01100
  | false, true, true, false, true => tc3_01101
  | false, true, true, true, false => tc3_01110
  | false, true, true, true, true => tc3_01111
  | true, false, false, false, false => tc3_10000
  | true, false, false, false, true => tc3_10001
  | true, false, false, true, false => tc3_10010
  | true, false, false, true, true => tc3_10011
  | true, false, true, false, false => tc3_10100
  | true, false, true, false, true => tc3_10101
  | true, false, true, true, false => tc3_10110
  | true, false, true, true, true => tc3_10111
  | true, true, false, false, false => tc3_11000
  | true, true, false, false, true => tc3_11001
  | true, true, false, true, false => tc3_11010
  | true, true, false, true, true => tc3_11011
  | true, true, true, false, false => tc3_11100
  | true, true, true, false, true => tc3_11101
  | true, true, true, true, false => tc3_11110
  | true, true, true, true, true => tc3_11111
theorem w4 : ∀ a b c d e, tcT 4 a b c d e = true
  | false, false, false, false, false => tc4_00000
  | false, false, false, false, true => tc4_00001
  | false, false, false, true, false => tc4_00010
  | false, false, false, true, true => tc4_00011
  | false, false, true, false, false => tc4_00100
  | false, false, true, false, true => tc4_00101
  | false, false, true, true, false => tc4_00110
  | false, false, true, true, true => tc4_00111
  | false, true, false, false, false => tc4_01000
  | false, true, false, false, true => tc4_01001
  | false, true, false, true, false => tc4_01010
  | false, true, false, true, true => tc4_01011
  | false, true, true, false, false => tc4_01100
  | false, true, true, false, true => tc4_01101
  | false, true, true, true, false => tc4_01110
  | false, true, true, true, true => tc4_01111
  | true, false, false, false, false => tc4_10000
  | true, false, false, false, true => tc4_10001
  | true, false, false, true, false => tc4_10010
  | true, false, false, true, true => tc4_10011
  | true, false, true, false, false => tc4_10100
  | true, false, true, false, true => tc4_10101
  | true, false, true, true, false => tc4_10110
  | true, false, true, true, true => tc4_10111
  | true, true, false, false, false => tc4_11000
  | true, true, false, false, true => tc4_11001
  | true, true, false, true, false => tc4_11010
  | true, true, false, true, true => tc4_11011
  | true, true, true, false, false => tc4_11100
  | true, true, true, false, true => tc4_11101
  | true, true, true, true, false => tc4_11110
  | true, true, true, true, true => tc4_11111
theorem w5 : ∀ a b c d e, tcT 5 a b c d e = true
  | false, false, false, false, false => tc5_00000
  | false, false, false, false, true => tc5_00001
  | false, false, false, true, false => tc5_00010
  | false, false, false, true, true => tc5_00011
  | false, false, true, false, false => tc5_00100
  | false, false, true, false, true => tc5_00101
  | false, false, true, true, false => tc5_00110
  | false, false, true, true, true => tc5_00111
  | false, true, false, false, false => tc5_01000
  | false, true, false, false, true => tc5_01001
  | false, true, false, true, false => tc5_01010
  | false, true, false, true, true => tc5_01011
  | false, true, true, false, false => tc5_01100
  | false, true, true, false, true => tc5_01101
  | false, true, true, true, false => tc5_01110
  | false, true, true, true, true => tc5_01111
  | true, false, false, false, false => tc5_10000
  | true, false, false, false, true => tc5_10001
  | true, false, false, true, false => tc5_10010
  | true, false, false, true, true => tc5_10011
  | true, false, true, false, false => tc5_10100
  | true, false, true, false, true => tc5_10101
  | true, false, true, true, false => tc5_10110
  | true, false, true, true, true => tc5_10111
  | true, true, false, false, false => tc5_11000
  | true, true, false, false, true => tc5_11001
  | true, true, false, true, false => tc5_11010
  | true, true, false, true, true => tc5_11011
  | true, true, true, false, false => tc5_11100
  | true, true, true, false, true => tc5_11101
  | true, true, true, true, false => tc5_11110
  | true, true, true, true, true => tc5_11111
theorem words : ∀ q a b c d e, (q = 1 ∨ q = 2 ∨ q = 3 ∨ q = 4 ∨ q = 5) → tcT q a b c d e = true := by
  intro q a b c d e h
  rcases h with rfl | rfl | rfl | rfl | rfl
  · exact w1 a b c d e
  · exact w2 a b c d e
  · exact w3 a b c d e
  · exact w4 a b c d e
  · exact w5 a b c d e
theorem forms : TcRuns := ⟨tc_long, words⟩

set_option maxRecDepth 100000
theorem laidOut : laidOutB Tryz.prog = true := by kernel_rfl
section
variable {H : Type} {enc : TypeId × Value → H} {W : World} {v : Value} {d : DataW H} {p : List MemPlace}
theorem keep_bytes {W' : World} (h : DataW.Trod enc Tryz.prog W 0 (fun _ => true) true 23 v d p) (hb : Below W.heap.size W W') (hlt : ∀ x ∈ p, x.block < W.heap.size) : DataW.Trod enc Tryz.prog W' 0 (fun b => decide (b < W.heap.size)) true 23 v d p :=
  Below.trod laidOut (by kernel_rfl) (of_decide_eq_true (by kernel_rfl)) h hb hlt
theorem keep_bools {W' : World} (h : DataW.Trod enc Tryz.prog W 0 (fun _ => true) true 22 v d p) (hb : Below W.heap.size W W') (hlt : ∀ x ∈ p, x.block < W.heap.size) : DataW.Trod enc Tryz.prog W' 0 (fun b => decide (b < W.heap.size)) true 22 v d p :=
  Below.trod laidOut (by kernel_rfl) (of_decide_eq_true (by kernel_rfl)) h hb hlt
theorem bytes_len {A : Option Addr} {n c : Nat} (h : DataW.Trod enc Tryz.prog W 0 (fun _ => true) true 23 (.slice A n c) d p) : n ≤ 9223372036854775807 := by
  obtain ⟨fuel, hf⟩ := h
  have hmx : maxLen ≤ 9223372036854775807 := by decide
  rcases open_ints Tryz.underlying23 Tryz.underlying5 (show Tryz.prog.cellsOf 5 = 1 by kernel_rfl) hf with ⟨hcs, hx⟩ | ⟨a, len', cap', zs, hcs, _, hl, hm, hz, hx, hcell, hwz⟩
  · simp [Value.cells] at hcs
    omega
  · simp [Value.cells] at hcs
    omega
theorem arrU : Tryz.prog.underlying 22 = some (.array 5 4) := by kernel_rfl
theorem arrC : Tryz.prog.cellsOf 22 = 5 := by kernel_rfl
theorem arrT : Tryz.prog.cellTypes Tryz.prog.depth 22 = some [4, 4, 4, 4, 4] := by kernel_rfl
theorem cell_bool {base : Nat} {u : Value} (h : Cell.okWide Tryz.prog W .any base 4 u) : ∃ b, u = .bool b := by
  unfold Cell.okWide at h
  rw [Tryz.underlying4] at h
  cases u <;> first | exact ⟨_, rfl⟩ | (simp only [Cell.ok, Tryz.underlying4] at h)
theorem open_bools {base : Nat} (h : Value.okWide Tryz.prog W .any base 22 v) : ∃ a b c d e, v = .agg #[.bool a, .bool b, .bool c, .bool d, .bool e] := by
  unfold Value.okWide at h
  rw [arrU] at h
  obtain ⟨cs, rfl, hsz, ts, hts, _, hall⟩ := h
  rw [arrC] at hsz
  rw [arrT] at hts
  obtain rfl := Option.some.inj hts
  obtain ⟨l⟩ := cs
  have hl : l.length = 5 := hsz
  match l, hl, hall with
  | [u0, u1, u2, u3, u4], _, hall =>
    obtain ⟨t0, e0, k0⟩ := hall 0 u0 rfl
    obtain ⟨t1, e1, k1⟩ := hall 1 u1 rfl
    obtain ⟨t2, e2, k2⟩ := hall 2 u2 rfl
    obtain ⟨t3, e3, k3⟩ := hall 3 u3 rfl
    obtain ⟨t4, e4, k4⟩ := hall 4 u4 rfl
    cases e0
    cases e1
    cases e2
    cases e3
    cases e4
    obtain ⟨a, rfl⟩ := cell_bool k0
    obtain ⟨b, rfl⟩ := cell_bool k1
    obtain ⟨c, rfl⟩ := cell_bool k2
    obtain ⟨d, rfl⟩ := cell_bool k3
    obtain ⟨e, rfl⟩ := cell_bool k4
    exact ⟨a, b, c, d, e, rfl⟩
end

set_option maxRecDepth 100000 in
theorem contract (H : Type) (enc : TypeId × Value → H) (W : World) (base : Nat) (args : Array Value) (ds gs : List (DataW H)) (before : List MemPlace)
    (hval : ∀ (j : Nat) t v, Tryz.f3.params[j]? = some t → args[j]? = some v → Value.okWide Tryz.prog W .any base t v)
    (hW : DataW.Whole enc Tryz.prog Tryz.f3.params.toList Rows.toolConfSpec.vars false W args.toList ds gs before) (hL : laidMetH Tryz.prog Rows.toolConfRow.laid W) (hsh : W.ShapedOpen Tryz.prog) :
    Calls Tryz.prog 3 args W fun e W' => ∃ v, e = .returned v ∧ Rows.toolConfSpec.post enc Tryz.prog Tryz.f3 false true false false W args v W' := by
  have hW' := hW
  obtain ⟨p, q, hA0, hV, rfl, hfz, hnd⟩ := hW
  have hA : DataW.TrodAll enc Tryz.prog W 0 (fun _ => true) true Tryz.f3.params.toList args.toList ds p := hA0
  rw [Tryz.params3] at hA hval
  obtain ⟨v0, vs0, d0, ds0, p0, q0, hargs, rfl, rfl, h0, r0⟩ := trodAll_cons hA
  obtain ⟨v1, vs1, d1, ds1, p1, q1, rfl, rfl, rfl, h1, r1⟩ := trodAll_cons r0
  obtain ⟨v2, vs2, d2, ds2, p2, q2, rfl, rfl, rfl, h2, r2⟩ := trodAll_cons r1
  obtain ⟨v3, vs3, d3, ds3, p3, q3, rfl, rfl, rfl, h3, r3⟩ := trodAll_cons r2
  obtain ⟨v4, vs4, d4, ds4, p4, q4, rfl, rfl, rfl, h4, r4⟩ := trodAll_cons r3
  obtain ⟨rfl, rfl, rfl⟩ := trodAll_nil r4
  obtain rfl : args = #[v0, v1, v2, v3, v4] := by cases args; simp_all
  obtain ⟨rfl, rfl⟩ := trodVars_none hV
  obtain ⟨a0, a1, a2, a3, a4, rfl⟩ := open_bools (hval 0 22 v0 rfl rfl)
  obtain ⟨x1, rfl, rfl, rfl, wx1⟩ := open_int Tryz.underlying3 (hval 1 3 v1 rfl rfl) h1
  obtain ⟨x2, rfl, rfl, rfl, wx2⟩ := open_int Tryz.underlying3 (hval 2 3 v2 rfl rfl) h2
  obtain ⟨x3, rfl, rfl, rfl, wx3⟩ := open_int Tryz.underlying3 (hval 3 3 v3 rfl rfl) h3
  obtain ⟨A4, n4, c4, rfl⟩ := okWide_slice Tryz.underlying23 (hval 4 23 v4 rfl rfl)
  have hn4 := bytes_len h4
  clear hA0
  simp only [List.append_nil, List.nil_append] at hW'
  have hlt0 : ∀ x ∈ p0, x.block < W.heap.size := fun x hx => hW'.lt x (by simp [hx])
  have hlt4 : ∀ x ∈ p4, x.block < W.heap.size := fun x hx => hW'.lt x (by simp [hx])
  have hm : Known W := ⟨Tryz.laysM219.s1_3 W hsh, syn_known hL⟩
  refine (toolConf_at awakeRuns forms a0 a1 a2 a3 a4 x1 x2 x3 A4 n4 c4 hn4 W hm (pow_of hL)).mono ?_
  rintro e W' ⟨rfl, hb⟩
  refine ⟨_, rfl, _, _, _, [], [] ++ (p0 ++ p4), [], hW', ?_, ?_, ?_, hb.frame _, fun h => by cases h⟩
  · exact trodAll_mk1 (shut_bool Tryz.underlying4 true)
  · exact ⟨p0, p4, keep_bools h0 hb hlt0, trodAll_mk4 (shut_int Tryz.underlying3 wx1) (shut_int Tryz.underlying3 wx2) (shut_int Tryz.underlying3 wx3) (keep_bytes h4 hb hlt4), rfl⟩
  · rfl

theorem reads (os : Os) {H : Type} (enc : TypeId × Value → H) : ∃ places, DataW.whole enc Tryz.prog ((laidWorld os).forCall (fun _ _ => 0) ⟨#[], #[.agg #[.bool false, .bool false, .bool false, .bool false, .bool false], .int .i64 0, .int .i64 0, .int .i64 0, .slice none 0 0], []⟩).memory Tryz.f3.params.toList Rows.toolConfSpec.vars false #[Value.agg #[.bool false, .bool false, .bool false, .bool false, .bool false], Value.int .i64 0, Value.int .i64 0, Value.int .i64 0, Value.slice none 0 0].toList 8 = some ([.agg [.lit (.bool false), .lit (.bool false), .lit (.bool false), .lit (.bool false), .lit (.bool false)], .lit (.int .i64 0), .lit (.int .i64 0), .lit (.int .i64 0), .nil], [], places) :=
  ⟨[], by kernel_rfl⟩

set_option maxRecDepth 100000 in
theorem lifted (os : Os) (started : os.Started) (H : Type) (enc : TypeId × Value → H) (F : Stop.Interp) :
    ReturnsInHanded {} Tryz.checked os 3 .any ((OpenSpec.ofChange Rows.toolConfSpec).preRow enc Tryz.prog Tryz.f3 Rows.toolConfRow.domain false Rows.toolConfRow.laid) (((OpenSpec.ofChange Rows.toolConfSpec).at F).post enc Tryz.prog Tryz.f3 false true false false) := by
  obtain ⟨places, hx⟩ := reads os enc
  refine returnsInHanded_of_row (C := Tryz.checked) (s := OpenSpec.ofChange Rows.toolConfSpec) own started (by kernel_rfl) Tryz.func3
    (witness_row_atRef (enc := enc) (C := Tryz.checked) false (laidWorld os) #[.agg #[.bool false, .bool false, .bool false, .bool false, .bool false], .int .i64 0, .int .i64 0, .int .i64 0, .slice none 0 0] rfl (by kernel_rfl) (by kernel_rfl) (by kernel_rfl)
      (OpenSpec.preRow_of_cond 8 hx (by kernel_rfl) (fun k hk => by cases hk) (by kernel_rfl) (laid_met os _))) ?_
  intro W base args ds gs before hval hW _ _ _ hL hsh _
  exact contract H enc W base args ds gs before hval hW hL hsh

theorem said : Rows.ToolConfSaid :=
  OpenClaim.holds_of_cond 3 Tryz.f3 rfl rfl rfl rfl rfl rfl rfl ⟨rfl, rfl, rfl, rfl, rfl⟩ rfl rfl rfl rfl rfl named Tryz.func3 facts
    (of_decide_eq_true (by kernel_rfl)) (by unfold Func.isWrapper; first | (rw [if_pos (by decide +kernel)]; kernel_rfl) | (rw [if_neg (by decide +kernel)]; exact ⟨rfl, rfl⟩))
    (fun os started H enc _ F => by rw [OpenClaim.pre_eq_preRow]; exact lifted os started H enc F)

theorem plain (f : FuncId) (fn : Func) (hf : Tryz.pinned.checked.prog.funcNamed "bosket/bosketlaw28.ToolConf" = some f) (hfn : Tryz.pinned.checked.prog.funcs[f]? = some fn) :
    true = Tryz.pinned.checked.prog.looks [] ∧ ∀ (j : Nat) t, fn.params[j]? = some t → Tryz.pinned.checked.prog.wantsStandIn t = false := by
  obtain rfl : f = 3 := Option.some.inj ((show Tryz.prog.funcNamed "bosket/bosketlaw28.ToolConf" = some 3 by kernel_rfl).symm.trans hf) |>.symm
  obtain rfl : fn = Tryz.f3 := (Option.some.inj (Tryz.func3.symm.trans hfn)).symm
  refine ⟨by kernel_rfl, fun j t ht => ?_⟩
  rw [Tryz.params3] at ht
  have ht2 := Array.mem_of_getElem? ht
  simp at ht2
  rcases ht2 with rfl | rfl | rfl
  · exact (show Tryz.prog.wantsStandIn 22 = false by kernel_rfl)
  · exact (show Tryz.prog.wantsStandIn 3 = false by kernel_rfl)
  · exact (show Tryz.prog.wantsStandIn 23 = false by kernel_rfl)

theorem card : Rows.ToolConfCardSaid :=
  Claim7.holds_tied_plain_at .later [] _ _ _ _ said (fun _ h => by cases h) (by kernel_rfl) (fun _ h => by cases h) toolConf_row_tie rfl ⟨rfl, rfl⟩ (by kernel_rfl) rfl plain (by kernel_rfl)
end Go.Proofs.YtpflpjkbiopmpaaGreatDoor.toolConf
