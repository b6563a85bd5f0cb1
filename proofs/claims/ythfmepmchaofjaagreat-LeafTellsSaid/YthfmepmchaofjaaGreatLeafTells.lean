/-
The law LeafTells holds: for every text and every list of ints it returns true; its arguments read behind the call as they read before. No condition.
-/
import Derived.Test.YthfmepmchaofjaaGreatRows
import Derived.Test.YthfmepmchaofjaaGreatLfK
import Derived.Test.YthfmepmchaofjaaGreatEvK
import Derived.ProofKit
import Derived.Carry
import Derived.Lib.LaidIn
set_option linter.all false
namespace Go.Proofs.YthfmepmchaofjaaGreat.leafTells
open Go.ChangeShapes Go.WideShapes Go.ChangeAt Go.RowKit Go.Lib
open Go.ChangeMaps (open_string shut_string)
open Go.Proofs.YthfmepmchaofjaaGreat.Ev Go.Proofs.YthfmepmchaofjaaGreat.Ev.Lf Go.Proofs.YthfmepmchaofjaaGreat.Ev.Rf
theorem own : ownKnob Tryz.prog.godebug = none := by kernel_rfl
theorem laidOut : laidOutB Tryz.prog = true := by kernel_rfl
theorem cellsInt : Tryz.prog.cellsOf 3 = 1 := by kernel_rfl
theorem cell_lt {w : World} {a : Addr} {v : Value} (h : w.cell? a = some v) : a.block < w.heap.size := by
 rcases Nat.lt_or_ge a.block w.heap.size with hlt | hge
 ·exact hlt
 ·unfold World.cell? at h
  simp [Array.getElem?_eq_none hge] at h
section
variable {H : Type} {enc : TypeId × Value → H} {W : World} {base : Nat} {v : Value} {d : DataW H} {p : List MemPlace}
noncomputable def mu (W : World) : Mu := ⟨fun _ => .bool false, fun g o => W.heap[g]? = some o⟩
theorem mu_marks (W : World) : yJ (mu W) := fun _ => rfl
theorem mu_held (W : World) : jPw (mu W) W := fun _ _ h => h
set_option maxRecDepth 20000 in
theorem open_arg (hval : Value.okWide Tryz.prog W .any base 22 v) (h : DataW.Trod enc Tryz.prog W 0 (fun _ => true) true 22 v d p) :
  ∃ zs : List Int, RV (mu W) j0 (.fi zs) v := by
 obtain ⟨a0, n, c, rfl⟩ := okWide_slice Tryz.underlying22 hval
 obtain ⟨fuel, hf⟩ := h
 rcases open_ints Tryz.underlying22 Tryz.underlying3 cellsInt hf with ⟨hcs, hx⟩ | ⟨a, len', cap', zs, hcs, _, hl, hm, hz, hx, hcell, hwz⟩
 ·simp [Value.cells] at hcs
  obtain ⟨rfl, rfl, rfl⟩ := hcs
  exact ⟨[], none, 0, rfl, fun h => (h rfl).elim⟩
 ·simp [Value.cells] at hcs
  obtain ⟨rfl, rfl, rfl⟩ := hcs
  simp only [if_true] at hz
  have hlen : (zs.take n).length = n := by simp; omega
  refine ⟨zs.take n, some a, c, by rw [hlen], fun hn => ?_⟩
  have hpos : 0 < zs.length := by
   cases zs with
   | nil => simp at hn
   | cons _ _ => simp
  have h0 := hcell 0 hpos
  obtain ⟨bk, of, sp⟩ := a
  have e0 : ∀ i, (⟨bk, of, sp⟩ : Addr).add i = ⟨bk, of + i, if i = 0 then sp else none⟩ := by
   intro i
   unfold Addr.add
   by_cases hi : i = 0
   ·subst hi; rfl
   ·simp [hi]
  have hb0 : ∃ cs e fz, W.heap[bk]? = some (.cells cs e fz) ∧ sp = none := by
   rw [e0] at h0
   unfold World.cell? at h0
   split at h0
   ·rename_i cs e fz hh
    refine ⟨cs, e, fz, hh, ?_⟩
    cases sp with
    | none => rfl
    | some x => simp at h0
   ·cases h0
  obtain ⟨cs, e, fz, hh, rfl⟩ := hb0
  refine ⟨bk, of, cs, e, fz, rfl, hh, fun i z hz2 => ?_⟩
  obtain ⟨h1, h2⟩ := List.getElem?_eq_some_iff.1 hz2
  have hj : i < zs.length := by simp at h1; omega
  have h3 := hcell i hj
  rw [e0] at h3
  unfold World.cell? at h3
  simp only [hh] at h3
  have h4 : (zs.take n)[i] = zs[i] := by simp
  have h5 : zs.getD i 0 = z := by rw [← h2, h4]; simp [List.getD_eq_getElem?_getD, hj]
  rw [h5] at h3
  by_cases hi : i = 0 <;> simpa [hi] using h3
theorem keep_arg {W' : World} (h : DataW.Trod enc Tryz.prog W 0 (fun _ => true) true 22 v d p) (hb : Below W.heap.size W W') (hlt : ∀ x ∈ p, x.block < W.heap.size) : DataW.Trod enc Tryz.prog W' 0 (fun b => decide (b < W.heap.size)) true 22 v d p :=
 Below.trod laidOut (by kernel_rfl) (of_decide_eq_true (by kernel_rfl)) h hb hlt
end
theorem fsok : qAq (lS Tryz.prog) := ⟨by kernel_rfl, by kernel_rfl, by kernel_rfl, by kernel_rfl, by kernel_rfl, by kernel_rfl, by kernel_rfl, by kernel_rfl, by kernel_rfl, by kernel_rfl, by kernel_rfl, by kernel_rfl, by kernel_rfl, by kernel_rfl, by kernel_rfl, by kernel_rfl, by kernel_rfl, by kernel_rfl, by kernel_rfl, by kernel_rfl, by kernel_rfl, by kernel_rfl, by kernel_rfl⟩
def isT : Option (AV × Go.Proofs.YthfmepmchaofjaaGreat.Ev.Mem) → Bool
 | some (.b true, _) => true
 | _ => false
theorem aw : isT (evF (lS Tryz.prog) (fun _ _ => none) 1000 60 4 [] gR) = true := by decide +kernel
theorem isT_some {o : Option (AV × Go.Proofs.YthfmepmchaofjaaGreat.Ev.Mem)} (h : isT o = true) : ∃ σ, o = some (.b true, σ) := by
 unfold isT at h
 split at h
 ·exact ⟨_, rfl⟩
 ·cases h
theorem mix : Tryz.prog.follows .mixedOrders = true := by kernel_rfl
theorem orc_ok (μ : Mu) (hμ : yJ μ) : jHg Tryz.prog μ mX := by
 intro f args x h j w vs hw hl
 unfold mX at h
 split at h
 ·split at h
  ·cases h
   cases hl
   obtain ⟨σ, hs⟩ := isT_some aw
   refine ⟨⟨Tryz.f4, Tryz.func4, by kernel_rfl, by kernel_rfl⟩, ?_⟩
   refine (jQw hμ qBy mix hs w hw [] rfl).mono ?_
   rintro e w' ⟨j', v, rfl, hv, hr⟩
   refine ⟨v, rfl, hv, hr.below.to_below⟩
  ·cases h
 ·cases h
theorem law_any (s : ByteArray) (v : Value) (zs : List Int) (W : World) (hz : RV (mu W) j0 (.fi zs) v) :
  Calls Tryz.prog 3 #[.string s, v] W fun e W' => e = .returned (.bool true) ∧ Below W.heap.size W W' := by
 obtain ⟨σ, h⟩ := jXf fsok qDu psc s.size (qZ s.data.toList) (by
  intro h0
  have h1 : s.data.size = 0 := h0
  have h2 : s.data.toList = [] := List.eq_nil_of_length_eq_zero (by rw [Array.length_toList]; exact h1)
  rw [h2]; rfl) zs
 refine (jQw (mu_marks W) (orc_ok (mu W) (mu_marks W)) mix h W (mu_held W) [.string s, v] ⟨_, _, rfl, ⟨s, rfl, rfl, rfl⟩, _, _, rfl, hz, rfl⟩).mono ?_
 rintro e W' ⟨j', u, rfl, rfl, hr⟩
 exact ⟨rfl, hr.below.to_below⟩
set_option maxRecDepth 100000 in
theorem lifted (os : Os) (started : os.Started) (H : Type) (enc : TypeId × Value → H) :
  ReturnsInHanded {} Tryz.checked os 3 .any (Rows.leafTellsSpec.pre6 enc Tryz.prog Tryz.f3 Rows.leafTellsRow.domain false) (Rows.leafTellsSpec.post enc Tryz.prog Tryz.f3 false true false false) := by
 refine returnsInHanded_of_change (C := Tryz.checked) own started (by kernel_rfl) Tryz.func3
  (ChangeSpec.witness6 (enc := enc) (C := Tryz.checked) false ⟨#[], #[.string ⟨#[]⟩, .slice none 0 0], []⟩ 8 (by kernel_rfl) (by kernel_rfl) (by kernel_rfl) (by kernel_rfl)) ?_
 intro W base args ds gs before hval0 hW hcnd _
 have hval : ∀ (j : Nat) t v, Tryz.f3.params[j]? = some t → args[j]? = some v → Value.okWide Tryz.prog W .any base t v := hval0
 have hW' := hW
 obtain ⟨p, q, hA0, hV, rfl, hfz, hnd⟩ := hW
 have hA : DataW.TrodAll enc Tryz.prog W 0 (fun _ => true) true Tryz.f3.params.toList args.toList ds p := hA0
 rw [Tryz.params3] at hA hval
 obtain ⟨v0, vs0, d0, ds0, p0, q0, hargs, rfl, rfl, h0, r0⟩ := trodAll_cons hA
 obtain ⟨v1, vs1, d1, ds1, p1, q1, rfl, rfl, rfl, h1, r1⟩ := trodAll_cons r0
 obtain ⟨rfl, rfl, rfl⟩ := trodAll_nil r1
 obtain rfl : args = #[v0, v1] := by cases args; simp_all
 obtain ⟨rfl, rfl⟩ := trodVars_none hV
 obtain ⟨s, rfl, rfl, rfl, ws⟩ := open_string Tryz.underlying9 (hval 0 9 v0 rfl rfl) h0
 obtain ⟨zs, hR⟩ := open_arg (hval 1 22 v1 rfl rfl) h1
 clear hA0 hval0
 simp only [List.append_nil, List.nil_append] at hW'
 have e2 : p1 ++ [] = p1 := List.append_nil _
 have hlt : ∀ x ∈ p1, x.block < W.heap.size := fun x hx => by simpa using hW'.lt x hx
 refine (law_any s v1 zs W hR).mono ?_
 rintro e W' ⟨rfl, hb⟩
 refine ⟨_, rfl, _, _, _, [], p1, [], hW', ?_, ?_, ?_, hb.frame _, fun h => by cases h⟩
 ·exact trodAll_mk1 (shut_bool Tryz.underlying4 true)
 ·exact by have := trodAll_mk2 (shut_string Tryz.underlying9 ws) (keep_arg h1 hb hlt); simp only [List.append_nil, List.nil_append] at this; exact this
 ·rfl
theorem said : Rows.LeafTellsSaid :=
 OpenClaim.holds_of_wide 3 Tryz.f3 rfl rfl rfl rfl rfl rfl rfl ⟨rfl, rfl, rfl, rfl, rfl⟩ rfl rfl rfl rfl rfl (by kernel_rfl) Tryz.func3 (by kernel_rfl)
  (of_decide_eq_true (by kernel_rfl)) (by unfold Func.isWrapper; first | (rw [if_pos (by decide +kernel)]; kernel_rfl) | (rw [if_neg (by decide +kernel)]; exact ⟨rfl, rfl⟩))
  (fun os started H enc _ => lifted os started H enc)
end Go.Proofs.YthfmepmchaofjaaGreat.leafTells
