/-
The law FlatTells holds: for every text, every list of ints and all three choices it returns true; its arguments read behind the call as they read before. Conditions: the listed variables of the library are laid as the program's text says (the card ties them).
-/
import Derived.Test.YtdlhiljbhepliaaGreatDoorCards
import Derived.Test.YtdlhiljbhepliaaGreatDoorTie
import Derived.Test.YtdlhiljbhepliaaGreatDoorLfK
import Derived.Test.YtdlhiljbhepliaaGreatDoorGbW
import Derived.Deep.DeepHandedRow
import Derived.Deep.DeepWitnessRowRef
import Derived.PinnedBridge
import Derived.ProofKit
import Derived.OpenShut
import Derived.Carry
import Derived.JoinedCond
import Derived.Lib.LaidIn
import Derived.Lib.LaidU8T
import Derived.Shelf.Vars
set_option linter.all false
namespace Go.Proofs.YtdlhiljbhepliaaGreatDoor.flatTells
open Go.ChangeShapes Go.WideShapes Go.ChangeAt Go.RowKit Go.Lib
open Go.ChangeMaps (open_string shut_string)
open Go.Proofs.YtdlhiljbhepliaaGreatDoor.Ev Go.Proofs.YtdlhiljbhepliaaGreatDoor.Ev.Lf Go.Proofs.YtdlhiljbhepliaaGreatDoor.Ev.Rf Go.Proofs.YtdlhiljbhepliaaGreatDoor.Ev.Fb
theorem own : ownKnob Tryz.prog.godebug = none := by kernel_rfl
theorem laidOut : laidOutB Tryz.prog = true := by kernel_rfl
theorem cellsInt : Tryz.prog.cellsOf 3 = 1 := by kernel_rfl
noncomputable def laidWorld (os : Os) : World :=
 let w0 := World.holding Tryz.prog os ⟨#[], #[], []⟩
 let put (h : Array Obj) (g : Nat) (cs : Array Value) : Array Obj := h.modify g fun
  | .cells _ t frozen => .cells cs t frozen
  | o => o
 let ns (l : List Int) (k : IntKind) : Array Value := (l.map fun z => Value.int k z).toArray
 let h1 := put w0.heap 1 (ns Lib.firstTab .u8)
 let h2 := put h1 2 ((List.range 16).flatMap fun i => [Value.int .u8 (Lib.accLo i), Value.int .u8 (Lib.accHi i)]).toArray
 let h3 := put h2 4 (ns [0, 1, 28, 2, 29, 14, 24, 3, 30, 22, 20, 15, 25, 17, 4, 8, 31, 27, 13, 23, 21, 19, 16, 7, 26, 12, 18, 6, 11, 5, 10, 9] .u8)
 let h4 := put h3 5 (ns [0, 1, 56, 2, 57, 49, 28, 3, 61, 58, 42, 50, 38, 29, 17, 4, 62, 47, 59, 36, 45, 43, 51, 22, 53, 39, 33, 30, 24, 18, 12, 5, 63, 55, 48, 27, 60, 41, 37, 16, 46, 35, 44, 21, 52, 32, 23, 11, 54, 26, 40, 15, 34, 20, 31, 10, 25, 14, 19, 9, 13, 8, 7, 6] .u8)
 let h5 := put h4 3 (ns ((List.range 20).map fun i => ((10 ^ i : Nat) : Int)) .u64)
 { w0 with heap := h5 }
set_option maxRecDepth 1000000 in
theorem laid_met (os : Os) (args : Array Value) : laidMet Tryz.prog Rows.flatTellsRow.laid ((laidWorld os).forCall (fun _ _ => 0) ⟨#[], args, []⟩).memory :=
 (LaidIn.of_run [0, 1, 2, 3, 4, 5, 6, 7, 8, 9, 10] 8 (by kernel_rfl) (by kernel_rfl) (by kernel_rfl) (by kernel_rfl)).met
theorem accept_eq : (Rows.laid_unicode_utf8_acceptRanges : DataW Unit) = acceptData := by kernel_rfl
theorem db_eq : (Rows.laid_math_bits_deBruijn64tab : DataW Unit) = tabData .u8 [0, 1, 56, 2, 57, 49, 28, 3, 61, 58, 42, 50, 38, 29, 17, 4, 62, 47, 59, 36, 45, 43, 51, 22, 53, 39, 33, 30, 24, 18, 12, 5, 63, 55, 48, 27, 60, 41, 37, 16, 46, 35, 44, 21, 52, 32, 23, 11, 54, 26, 40, 15, 34, 20, 31, 10, 25, 14, 19, 9, 13, 8, 7, 6] := by kernel_rfl
theorem tabs_of {W : World} (hL : laidMet Tryz.prog Rows.flatTellsRow.laid W) : Lib.Utf8Tabs 1 2 W := by
 have h4 : VarReads Tryz.prog W "unicode/utf8.acceptRanges" Rows.laid_unicode_utf8_acceptRanges := Lib.laidMet.reads hL (by simp [Rows.flatTellsRow])
 have h3 : VarReads Tryz.prog W "unicode/utf8.first" Rows.laid_unicode_utf8_first := Lib.laidMet.reads hL (by simp [Rows.flatTellsRow])
 rw [accept_eq] at h4
 rw [show Rows.laid_unicode_utf8_first = firstData from Pinned.utf8First_eq] at h3
 exact utf8Tabs_of_readsT (ρ := Tryz.qren) { Tryz.q155 with } ⟨by kernel_rfl, by kernel_rfl, by kernel_rfl, by kernel_rfl, by kernel_rfl, by kernel_rfl, by kernel_rfl⟩ h3 h4
theorem db_of {W : World} (hL : laidMet Tryz.prog Rows.flatTellsRow.laid W) : W.cell? ⟨5, 15, none⟩ = some (.int .u8 4) := by
 have h3 : VarReads Tryz.prog W "math/bits.deBruijn64tab" Rows.laid_math_bits_deBruijn64tab := Lib.laidMet.reads hL (by simp [Rows.flatTellsRow])
 rw [db_eq] at h3
 obtain ⟨g, t, cs, fuel, p, hg, hty, hvar, hd⟩ := h3
 obtain rfl := Option.some.inj ((show Tryz.prog.globalNamed "math/bits.deBruijn64tab" = some 5 by kernel_rfl).symm.trans hg)
 obtain rfl := Option.some.inj ((show (Tryz.prog.globals[5]?).map (·.type) = some 239 by kernel_rfl).symm.trans hty)
 have hcs := cells_of_tab (show Tryz.prog.underlying 239 = some (.array 64 5) by kernel_rfl) (show Tryz.prog.underlying 5 = some (.int .u8) by kernel_rfl) (by kernel_rfl) (by kernel_rfl) hd
 have := World.var?_cell hg hvar 15
 rw [this, ← Array.getElem?_toList, hcs]
 rfl
theorem ml_of {W : World} (h : W.ShapedOpen Tryz.prog) : ∃ m, W.cell? ⟨0, 0, none⟩ = some (.int .i64 m) :=
 Go.Proofs.cell_of_shapedOpen_int (zero := #[.int .i64 0]) (t := 3) h (of_decide_eq_true (by kernel_rfl)) (by kernel_rfl) rfl (by kernel_rfl) (by kernel_rfl) Tryz.underlying3
theorem cell_lt {w : World} {a : Addr} {v : Value} (h : w.cell? a = some v) : a.block < w.heap.size := by
 rcases Nat.lt_or_ge a.block w.heap.size with hlt | hge
 ·exact hlt
 ·unfold World.cell? at h
  simp [Array.getElem?_eq_none hge] at h
section
variable {H : Type} {enc : TypeId × Value → H} {W : World} {base : Nat} {v : Value} {d : DataW H} {p : List MemPlace}
noncomputable def mu (W : World) : Mu := ⟨fun _ => .bool false, fun g o => W.heap[g]? = some o⟩
theorem mu_marks (W : World) : uQ (mu W) := fun _ => rfl
theorem mu_held (W : World) : jQp (mu W) W := fun _ _ h => h
theorem held_cell {W w : World} (h : jQp (mu W) w) {a : Addr} {v : Value} (hc : W.cell? a = some v) : w.cell? a = some v := by
 have hlt := cell_lt hc
 have hb := h a.block W.heap[a.block] (Array.getElem?_eq_getElem hlt)
 unfold World.cell? at hc ⊢
 rw [Array.getElem?_eq_getElem hlt] at hc
 rw [hb]
 exact hc
theorem knm {W : World} (ht : Lib.Utf8Tabs 1 2 W) (hd : W.cell? ⟨5, 15, none⟩ = some (.int .u8 4)) (hm : ∃ m, W.cell? ⟨0, 0, none⟩ = some (.int .i64 m)) : KnM (mu W) := by
 intro w h
 obtain ⟨m, hm⟩ := hm
 have hd' := held_cell h hd
 have hm' := held_cell h hm
 exact ⟨Lib.hid ⟨fun c hc => held_cell h (ht.1 c hc), fun i hi => ⟨held_cell h (ht.2 i hi).1, held_cell h (ht.2 i hi).2⟩⟩, Lib.hid hd', cell_lt hd', Lib.hid ⟨m, hm'⟩, cell_lt hm'⟩
set_option maxRecDepth 20000 in
theorem open_arg (hval : Value.okWide Tryz.prog W .any base 22 v) (h : DataW.Trod enc Tryz.prog W 0 (fun _ => true) true 22 v d p) :
  ∃ zs : List Int, RV (mu W) j0 (.fi zs) v := by
 obtain ⟨a0, n, c, rfl⟩ := okWide_slice Tryz.underlying22 hval
 obtain ⟨fuel, hf⟩ := h
 rcases open_ints Tryz.underlying22 Tryz.underlying3 cellsInt hf with ⟨hcs, hx⟩ | ⟨a, len', cap', zs, hcs, _, hl, hm, hz, hx, hcell, hwz⟩
 ·simp [Value.cells] at hcs
  obtain ⟨rfl, rfl, rfl⟩ := hcs
  exact ⟨[], none, 0, rfl, fun h => (h rfl).elim⟩
 ·simp [Value.cells] at hcs
  obtain ⟨rfl, rfl, rfl⟩ := hcs
  simp only [if_true] at hz
  have hlen : (zs.take n).length = n := by simp; omega
  refine ⟨zs.take n, some a, c, by rw [hlen], fun hn => ?_⟩
  have hpos : 0 < zs.length := by
   cases zs with
   | nil => simp at hn
   | cons _ _ => simp
  have h0 := hcell 0 hpos
  obtain ⟨bk, of, sp⟩ := a
  have e0 : ∀ i, (⟨bk, of, sp⟩ : Addr).add i = ⟨bk, of + i, if i = 0 then sp else none⟩ := by
   intro i
   unfold Addr.add
   by_cases hi : i = 0
   ·subst hi; rfl
   ·simp [hi]
  have hb0 : ∃ cs e fz, W.heap[bk]? = some (.cells cs e fz) ∧ sp = none := by
   rw [e0] at h0
   unfold World.cell? at h0
   split at h0
   ·rename_i cs e fz hh
    refine ⟨cs, e, fz, hh, ?_⟩
    cases sp with
    | none => rfl
    | some x => simp at h0
   ·cases h0
  obtain ⟨cs, e, fz, hh, rfl⟩ := hb0
  refine ⟨bk, of, cs, e, fz, rfl, hh, fun i z hz2 => ?_⟩
  obtain ⟨h1, h2⟩ := List.getElem?_eq_some_iff.1 hz2
  have hj : i < zs.length := by simp at h1; omega
  have h3 := hcell i hj
  rw [e0] at h3
  unfold World.cell? at h3
  simp only [hh] at h3
  have h4 : (zs.take n)[i] = zs[i] := by simp
  have h5 : zs.getD i 0 = z := by rw [← h2, h4]; simp [List.getD_eq_getElem?_getD, hj]
  rw [h5] at h3
  by_cases hi : i = 0 <;> simpa [hi] using h3
theorem keep_arg {W' : World} (h : DataW.Trod enc Tryz.prog W 0 (fun _ => true) true 22 v d p) (hb : Below W.heap.size W W') (hlt : ∀ x ∈ p, x.block < W.heap.size) : DataW.Trod enc Tryz.prog W' 0 (fun b => decide (b < W.heap.size)) true 22 v d p :=
 Below.trod laidOut (by kernel_rfl) (of_decide_eq_true (by kernel_rfl)) h hb hlt
end
theorem trodAll_mk5 {P : Program} {H : Type} {enc : TypeId × Value → H} {w : World} {base : Nat} {spare : Nat → Bool} {held : Bool} {t0 t1 t2 t3 t4 : TypeId} {v0 v1 v2 v3 v4 : Value} {d0 d1 d2 d3 d4 : DataW H} {p0 p1 p2 p3 p4 : List MemPlace} (h0 : DataW.Trod enc P w base spare held t0 v0 d0 p0) (h1 : DataW.Trod enc P w base spare held t1 v1 d1 p1) (h2 : DataW.Trod enc P w base spare held t2 v2 d2 p2) (h3 : DataW.Trod enc P w base spare held t3 v3 d3 p3) (h4 : DataW.Trod enc P w base spare held t4 v4 d4 p4) : DataW.TrodAll enc P w base spare held [t0, t1, t2, t3, t4] [v0, v1, v2, v3, v4] [d0, d1, d2, d3, d4] (p0 ++ (p1 ++ (p2 ++ (p3 ++ p4)))) := ⟨p0, _, h0, trodAll_mk4 h1 h2 h3 h4, rfl⟩
theorem fsok : Fb.FsOK (jDm Tryz.prog) := ⟨by kernel_rfl, by kernel_rfl, by kernel_rfl, by kernel_rfl, by kernel_rfl, by kernel_rfl, by kernel_rfl, by kernel_rfl, by kernel_rfl, by kernel_rfl, by kernel_rfl, by kernel_rfl, by kernel_rfl, by kernel_rfl, by kernel_rfl, by kernel_rfl, by kernel_rfl, by kernel_rfl, by kernel_rfl, by kernel_rfl⟩
theorem mix : Tryz.prog.follows .mixedOrders = true := by kernel_rfl
theorem law_any (s : ByteArray) (v : Value) (zs : List Int) (fl si ba : Bool) (W : World) (hz : RV (mu W) j0 (.fi zs) v) (hk : KnM (mu W)) :
  Calls Tryz.prog 3 #[.string s, v, .bool fl, .bool si, .bool ba] W fun e W' => e = .returned (.bool true) ∧ Below W.heap.size W W' := by
 obtain ⟨σ, h⟩ := Fb.law_run qMj fsok qSe psc (htt) s.size (zQ s.data.toList) (by
  have := jBh s.data.toList
  rw [Array.length_toList] at this
  exact this) zs fl si ba
 refine (qDx (mu_marks W) (qLy (mu_marks W) hk) mix h W (mu_held W) [.string s, v, .bool fl, .bool si, .bool ba] ⟨_, _, rfl, ⟨s, rfl, rfl, rfl⟩, _, _, rfl, hz, _, _, rfl, rfl, _, _, rfl, rfl, _, _, rfl, rfl, rfl⟩).mono ?_
 rintro e W' ⟨j', u, rfl, rfl, hr⟩
 exact ⟨rfl, hr.below.to_below⟩
set_option maxRecDepth 100000 in
theorem contract (H : Type) (enc : TypeId × Value → H) (W : World) (base : Nat) (args : Array Value) (ds gs : List (DataW H)) (before : List MemPlace)
  (hval0 : ∀ (j : Nat) t v, Tryz.f3.params[j]? = some t → args[j]? = some v → Value.okWide Tryz.prog W .any base t v)
  (hW : DataW.Whole enc Tryz.prog Tryz.f3.params.toList Rows.flatTellsSpec.vars false W args.toList ds gs before) (hL : laidMetH Tryz.prog Rows.flatTellsRow.laid W) (hsh : W.ShapedOpen Tryz.prog) :
  Calls Tryz.prog 3 args W fun e W' => ∃ v, e = .returned v ∧ Rows.flatTellsSpec.post enc Tryz.prog Tryz.f3 false true false false W args v W' := by
 have hval : ∀ (j : Nat) t v, Tryz.f3.params[j]? = some t → args[j]? = some v → Value.okWide Tryz.prog W .any base t v := hval0
 have hL' : laidMet Tryz.prog Rows.flatTellsRow.laid W := hL
 have hk := knm (tabs_of hL') (db_of hL') (ml_of hsh)
 have hW' := hW
 obtain ⟨p, q, hA0, hV, rfl, hfz, hnd⟩ := hW
 have hA : DataW.TrodAll enc Tryz.prog W 0 (fun _ => true) true Tryz.f3.params.toList args.toList ds p := hA0
 rw [Tryz.params3] at hA hval
 obtain ⟨v0, vs0, d0, ds0, p0, q0, hargs, rfl, rfl, h0, r0⟩ := trodAll_cons hA
 obtain ⟨v1, vs1, d1, ds1, p1, q1, rfl, rfl, rfl, h1, r1⟩ := trodAll_cons r0
 obtain ⟨v2, vs2, d2, ds2, p2, q2, rfl, rfl, rfl, h2, r2⟩ := trodAll_cons r1
 obtain ⟨v3, vs3, d3, ds3, p3, q3, rfl, rfl, rfl, h3, r3⟩ := trodAll_cons r2
 obtain ⟨v4, vs4, d4, ds4, p4, q4, rfl, rfl, rfl, h4, r4⟩ := trodAll_cons r3
 obtain ⟨rfl, rfl, rfl⟩ := trodAll_nil r4
 obtain rfl : args = #[v0, v1, v2, v3, v4] := by cases args; simp_all
 obtain ⟨rfl, rfl⟩ := trodVars_none hV
 obtain ⟨s, rfl, rfl, rfl, ws⟩ := open_string Tryz.underlying9 (hval 0 9 v0 rfl rfl) h0
 obtain ⟨zs, hR⟩ := open_arg (hval 1 22 v1 rfl rfl) h1
 obtain ⟨b2, rfl, rfl, rfl⟩ := open_bool Tryz.underlying4 (hval 2 4 v2 rfl rfl) h2
 obtain ⟨b3, rfl, rfl, rfl⟩ := open_bool Tryz.underlying4 (hval 3 4 v3 rfl rfl) h3
 obtain ⟨b4, rfl, rfl, rfl⟩ := open_bool Tryz.underlying4 (hval 4 4 v4 rfl rfl) h4
 clear hA0 hval0
 simp only [List.append_nil, List.nil_append] at hW'
 have hlt : ∀ x ∈ p1, x.block < W.heap.size := fun x hx => by simpa using hW'.lt x hx
 refine (law_any s v1 zs b2 b3 b4 W hR hk).mono ?_
 rintro e W' ⟨rfl, hb⟩
 refine ⟨_, rfl, _, _, _, [], p1, [], hW', ?_, ?_, ?_, hb.frame _, fun h => by cases h⟩
 ·exact trodAll_mk1 (shut_bool Tryz.underlying4 true)
 ·exact by have := trodAll_mk5 (shut_string Tryz.underlying9 ws) (keep_arg h1 hb hlt) (shut_bool Tryz.underlying4 b2) (shut_bool Tryz.underlying4 b3) (shut_bool Tryz.underlying4 b4); simp only [List.append_nil, List.nil_append] at this; exact this
 ·rfl
theorem reads (os : Os) {H : Type} (enc : TypeId × Value → H) : ∃ places, DataW.whole enc Tryz.prog ((laidWorld os).forCall (fun _ _ => 0) ⟨#[], #[.string ⟨#[]⟩, .slice none 0 0, .bool false, .bool false, .bool false], []⟩).memory Tryz.f3.params.toList Rows.flatTellsSpec.vars false #[Value.string ⟨#[]⟩, Value.slice none 0 0, Value.bool false, Value.bool false, Value.bool false].toList 8 = some ([.lit (.string []), .nil, .lit (.bool false), .lit (.bool false), .lit (.bool false)], [], places) :=
 ⟨[], by kernel_rfl⟩
set_option maxRecDepth 100000 in
theorem lifted (os : Os) (started : os.Started) (H : Type) (enc : TypeId × Value → H) (F : Stop.Interp) :
  ReturnsInHanded {} Tryz.checked os 3 .any ((OpenSpec.ofChange Rows.flatTellsSpec).preRow enc Tryz.prog Tryz.f3 Rows.flatTellsRow.domain false Rows.flatTellsRow.laid) (((OpenSpec.ofChange Rows.flatTellsSpec).at F).post enc Tryz.prog Tryz.f3 false true false false) := by
 obtain ⟨places, hx⟩ := reads os enc
 refine returnsInHanded_of_row (C := Tryz.checked) (s := OpenSpec.ofChange Rows.flatTellsSpec) own started (by kernel_rfl) Tryz.func3
  (witness_row_atRef (enc := enc) (C := Tryz.checked) false (laidWorld os) #[.string ⟨#[]⟩, .slice none 0 0, .bool false, .bool false, .bool false] rfl (by kernel_rfl) (by kernel_rfl) (by kernel_rfl)
   (OpenSpec.preRow_of_cond 8 hx (by kernel_rfl) (fun k hk => by cases hk) (by kernel_rfl) (laid_met os _))) ?_
 intro W base args ds gs before hval hW _ _ _ hL hsh _
 exact contract H enc W base args ds gs before hval hW hL hsh
set_option maxRecDepth 100000 in
set_option maxHeartbeats 100000000 in
theorem facts : joinedFacts Tryz.prog 3 Tryz.f3 (OpenSpec.ofChange Rows.flatTellsSpec).bare Rows.flatTellsRow = true := by
 unfold joinedFacts
 simp only [Bool.and_eq_true]
 repeat' apply And.intro
 all_goals (as_aux_lemma => kernel_rfl)
theorem named : Tryz.prog.funcNamed "bosket/bosketlaw24.FlatTells" = some 3 := by kernel_rfl
theorem said : Rows.FlatTellsSaid :=
 OpenClaim.holds_of_cond 3 Tryz.f3 rfl rfl rfl rfl rfl rfl rfl ⟨rfl, rfl, rfl, rfl, rfl⟩ rfl rfl rfl rfl rfl named Tryz.func3 facts
  (of_decide_eq_true (by kernel_rfl)) (by unfold Func.isWrapper; first | (rw [if_pos (by decide +kernel)]; kernel_rfl) | (rw [if_neg (by decide +kernel)]; exact ⟨rfl, rfl⟩))
  (fun os started H enc _ F => by rw [OpenClaim.pre_eq_preRow]; exact lifted os started H enc F)
theorem plain (f : FuncId) (fn : Func) (hf : Tryz.pinned.checked.prog.funcNamed "bosket/bosketlaw24.FlatTells" = some f) (hfn : Tryz.pinned.checked.prog.funcs[f]? = some fn) :
  true = Tryz.pinned.checked.prog.looks [] ∧ ∀ (j : Nat) t, fn.params[j]? = some t → Tryz.pinned.checked.prog.wantsStandIn t = false := by
 obtain rfl : f = 3 := Option.some.inj ((show Tryz.prog.funcNamed "bosket/bosketlaw24.FlatTells" = some 3 by kernel_rfl).symm.trans hf) |>.symm
 obtain rfl : fn = Tryz.f3 := (Option.some.inj (Tryz.func3.symm.trans hfn)).symm
 refine ⟨by kernel_rfl, fun j t ht => ?_⟩
 rw [Tryz.params3] at ht
 have ht2 := Array.mem_of_getElem? ht
 simp at ht2
 rcases ht2 with rfl | rfl | rfl
 ·exact (show Tryz.prog.wantsStandIn 9 = false by kernel_rfl)
 ·exact (show Tryz.prog.wantsStandIn 22 = false by kernel_rfl)
 ·exact (show Tryz.prog.wantsStandIn 4 = false by kernel_rfl)
theorem card : Rows.FlatTellsCardSaid :=
 Claim7.holds_tied_plain_at .later [] _ _ _ _ said (fun _ h => by cases h) (by kernel_rfl) (fun _ h => by cases h) flatTells_row_tie rfl ⟨rfl, rfl⟩ (by kernel_rfl) rfl plain (by kernel_rfl)
end Go.Proofs.YtdlhiljbhepliaaGreatDoor.flatTells
