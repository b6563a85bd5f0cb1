/-
  bosketlaw28.ToolWord and ToolOther return true.
-/
import Derived.Test.YtplgalgoplmkfaaGreatDoorToolA
import Derived.Test.YtplgalgoplmkfaaGreatDoorTWLow
set_option linter.unusedVariables false
set_option linter.unusedSimpArgs false
set_option linter.unnecessarySimpa false
set_option linter.all false
namespace Go.Proofs.YtplgalgoplmkfaaGreatDoor
open Go.RowKit Ev

theorem held_below {W w : World} (hb : Below W.heap.size W w) : Held (muL (fun _ => 0) W) w := by
  rintro g o ⟨hg, ho⟩
  rw [hb.block g (Array.getElem?_eq_some_iff.1 ho).1]; exact ho
theorem keep2 {f : FuncId} {args : Array Value} {r : Ending} {w0 w : World} {g1 g2 : Nat} {t1 t2 : TypeId} {c1 c2 : Array Value} (h : Calls Tryz.prog f args w fun e w' => e = r ∧ Below w.heap.size w w')
    (hb : Below w0.heap.size w0 w) (h1 : Blk w g1 t1 c1) (h2 : Blk w g2 t2 c2) : Calls Tryz.prog f args w fun e w' => e = r ∧ Below w0.heap.size w0 w' ∧ Blk w' g1 t1 c1 ∧ Blk w' g2 t2 c2 :=
  h.mono fun e w' ⟨k, b⟩ => ⟨k, hb.trans (b.mono hb.size), h1.below b h1.lt, h2.below b h2.lt⟩
theorem awake_own (ha : AwakeRuns) {W : World} (hm : Known W) (w : World) (hb : Below W.heap.size W w) : Calls Tryz.prog 8 #[] w fun e w' => e = .returned (.bool true) ∧ Below w.heap.size w w' := awake_any ha hm w (held_below hb)
theorem word_own (c l k : Int) (hl0 : 0 ≤ l) (hl1 : l ≤ 9223372036854775807) (hk0 : 0 ≤ k) (hk1 : k ≤ 9223372036854775807) (w0 w : World) (hp : Hid (Pow w0)) (hb : Below w0.heap.size w0 w) :
    Calls Tryz.prog 6 #[.agg #[.int .i64 c, .int .i64 l, .int .i64 k]] w fun e w' => e = .returned (.string (wordS c l k)) ∧ Below w.heap.size w w' := word_any c l k hl0 hl1 hk0 hk1 w (Lib.hid (hp.out.below hb))
theorem refword_own (c l k : Int) (hl0 : 0 ≤ l) (hl1 : l ≤ 9223372036854775807) (hk0 : 0 ≤ k) (hk1 : k ≤ 9223372036854775807) (w : World) :
    Calls Tryz.prog 7 #[.agg #[.int .i64 c, .int .i64 l, .int .i64 k]] w fun e w' => e = .returned (.string (wordS c l k)) ∧ Below w.heap.size w w' := refword_any c l k hl0 hl1 hk0 hk1 w
theorem awake_in (ha : AwakeRuns) {W : World} (hm : Known W) (w : World) (hb : Below W.heap.size W w) : Calls Tryz.prog 8 #[] w fun e w' => e = .returned (.bool true) ∧ Below W.heap.size W w' :=
  (awake_any ha hm w (held_below hb)).mono fun e w' ⟨h1, h2⟩ => ⟨h1, hb.trans (h2.mono hb.size)⟩
set_option maxRecDepth 100000 in
set_option maxHeartbeats 4000000 in
theorem toolWord_any (ha : AwakeRuns) (x y z : Int) (hy : y ≤ 9223372036854775807) (hz : z ≤ 9223372036854775807) (w : World) (hm : Hid (Known w)) (hp : Hid (Pow w)) :
    Calls Tryz.prog 3 #[.int .i64 x, .int .i64 y, .int .i64 z] w fun e w' => e = .returned (.bool true) ∧ Below w.heap.size w w' := by
  go_enter Tryz.func3, Tryz.ntmps3
  go_upto_region 3 with (first | (go_at_call 5; refine (low_any _ _ _ (by decide) (by decide)).mono ?_; rintro e w' ⟨rfl, rfl⟩))
  have hl0 : 0 ≤ max y 0 := by omega
  have hl1 : max y 0 ≤ 9223372036854775807 := by omega
  have hk0 : 0 ≤ max z 0 := by omega
  have hk1 : max z 0 ≤ 9223372036854775807 := by omega
  have hj := low_val z 200 (by decide) (by decide)
  obtain ⟨hj0, hj1⟩ := hj
  generalize max y 0 = l at hl0 hl1 ⊢
  generalize max z 0 = k at hk0 hk1 ⊢
  generalize lowZ z 200 = j at hj0 hj1 ⊢
  generalize lowZ x 12 = c
  clear hy hz
  have hb0 : Below w.heap.size w ((w.alloc (.cells #[.int .i64 x, .int .i64 l, .int .i64 k] 24)).alloc (.cells #[.int .i64 c, .int .i64 l, .int .i64 j] 24)) :=
    ((Below.refl _ _).alloc (Nat.le_refl _) _).alloc (by simp) _
  have hA0 := (Blk.new w 24 #[.int .i64 x, .int .i64 l, .int .i64 k]).alloc (.cells #[.int .i64 c, .int .i64 l, .int .i64 j] 24)
  have hB0 : Blk ((w.alloc (.cells #[.int .i64 x, .int .i64 l, .int .i64 k] 24)).alloc (.cells #[.int .i64 c, .int .i64 l, .int .i64 j] 24)) (w.heap.size + 1) 24 #[.int .i64 c, .int .i64 l, .int .i64 j] := by
    have := Blk.new (w.alloc (.cells #[.int .i64 x, .int .i64 l, .int .i64 k] 24)) 24 #[.int .i64 c, .int .i64 l, .int .i64 j]
    rwa [show (w.alloc (.cells #[.int .i64 x, .int .i64 l, .int .i64 k] 24)).heap.size = w.heap.size + 1 by simp] at this
  generalize (w.alloc (.cells #[.int .i64 x, .int .i64 l, .int .i64 k] 24)).alloc (.cells #[.int .i64 c, .int .i64 l, .int .i64 j] 24) = w2 at hb0 hA0 hB0 ⊢
  generalize w.heap.size + 1 = g2 at hB0 ⊢
  have hb := hb0.drew
  have hA := hA0.drew
  have hB := hB0.drew
  go_region_held3 (fun w' => w'.cell? ⟨w.heap.size, 0, none⟩ = some (.int .i64 x) ∧ w'.cell? ⟨w.heap.size, 1, none⟩ = some (.int .i64 l) ∧ w'.cell? ⟨w.heap.size, 2, none⟩ = some (.int .i64 k) ∧ w'.cell? ⟨g2, 0, none⟩ = some (.int .i64 c) ∧ w'.cell? ⟨g2, 1, none⟩ = some (.int .i64 l) ∧ w'.cell? ⟨g2, 2, none⟩ = some (.int .i64 j))
    (first | exact ⟨hA.cell 0, hA.cell 1, hA.cell 2, hB.cell 0, hB.cell 1, hB.cell 2⟩)
    (first
      | (go_at_call 6; refine (keep2 (word_own _ _ _ (by omega) (by omega) (by omega) (by omega) w _ hp hb) hb hA hB).mono ?_; rintro e w' ⟨rfl, hb, hA, hB⟩)
      | (go_at_call 7; refine (keep2 (refword_own _ _ _ (by omega) (by omega) (by omega) (by omega) _) hb hA hB).mono ?_; rintro e w' ⟨rfl, hb, hA, hB⟩)
      | (go_at_call 8; refine (keep2 (awake_own ha hm.out _ hb) hb hA hB).mono ?_; rintro e w' ⟨rfl, hb, hA, hB⟩))
  all_goals go_wp2_with fail
  all_goals go_ret
  all_goals exact ⟨rfl, hb⟩

/-! ### The commands -/
def isS (n v : Nat) : Option (AV × Mem) → Bool
  | some (.s m u, _) => Nat.beq m n && Nat.beq u v
  | _ => false
theorem isS_ok {n v : Nat} {r : Option (AV × Mem)} (h : isS n v r = true) : ∃ s, r = some (.s n v, s) := by
  unfold isS at h
  split at h
  · simp only [Bool.and_eq_true, Nat.beq_eq] at h
    obtain ⟨rfl, rfl⟩ := h
    exact ⟨_, rfl⟩
  · cases h
theorem command_of (k : Int) (b : ByteArray) (h : isS b.size (encL b.data.toList) (evMZ 200 fsT dsT (fun _ _ => none) 100000 false 9 [.i .i64 k] mem0) = true) (w : World) :
    Calls Tryz.prog 9 #[.int .i64 k] w fun e w' => e = .returned (.string b) ∧ Below w.heap.size w w' := by
  obtain ⟨s, hs⟩ := isS_ok h
  refine (run_okY (μ := .of fun _ => .bool true) (fun _ => rfl) noOrc mixed fsT_ok dsT_ok hs w Held.of [.int .i64 k] ⟨_, _, rfl, rfl, rfl⟩).mono ?_
  rintro e w' ⟨j', v, rfl, hv, hr⟩
  obtain ⟨c, rfl, h1, h2⟩ := hv
  have : c = b := by
    apply ByteArray.ext
    apply Array.toList_inj.1
    exact encL_inj (by rw [Array.length_toList, Array.length_toList]; exact h1) h2
  rw [this]
  exact ⟨rfl, hr.below.to_below⟩
theorem command_0 (w : World) : Calls Tryz.prog 9 #[.int .i64 0] w fun e w' => e = .returned (.string ⟨#[102, 109, 116]⟩) ∧ Below w.heap.size w w' := command_of 0 ⟨#[102, 109, 116]⟩ (by decide +kernel) w
theorem command_1 (w : World) : Calls Tryz.prog 9 #[.int .i64 1] w fun e w' => e = .returned (.string ⟨#[99, 104, 101, 99, 107]⟩) ∧ Below w.heap.size w w' := command_of 1 ⟨#[99, 104, 101, 99, 107]⟩ (by decide +kernel) w
theorem command_2 (w : World) : Calls Tryz.prog 9 #[.int .i64 2] w fun e w' => e = .returned (.string ⟨#[114, 111, 119, 115]⟩) ∧ Below w.heap.size w w' := command_of 2 ⟨#[114, 111, 119, 115]⟩ (by decide +kernel) w
theorem command_3 (w : World) : Calls Tryz.prog 9 #[.int .i64 3] w fun e w' => e = .returned (.string ⟨#[109, 101, 97, 110]⟩) ∧ Below w.heap.size w w' := command_of 3 ⟨#[109, 101, 97, 110]⟩ (by decide +kernel) w
theorem command_4 (w : World) : Calls Tryz.prog 9 #[.int .i64 4] w fun e w' => e = .returned (.string ⟨#[99, 111, 110, 102]⟩) ∧ Below w.heap.size w w' := command_of 4 ⟨#[99, 111, 110, 102]⟩ (by decide +kernel) w
/-- a text that is no command. -/
def NoCmd (s : ByteArray) (k : Nat) : Prop := (0 < k → (s.toList == [102, 109, 116]) = false) ∧ (1 < k → (s.toList == [99, 104, 101, 99, 107]) = false) ∧ (2 < k → (s.toList == [114, 111, 119, 115]) = false) ∧ (3 < k → (s.toList == [109, 101, 97, 110]) = false) ∧ (4 < k → (s.toList == [99, 111, 110, 102]) = false)
set_option maxHeartbeats 1000000 in
theorem run_any (s : ByteArray) (u v : Value) (h0 : (s.toList == [102, 109, 116]) = false) (h1 : (s.toList == [99, 104, 101, 99, 107]) = false) (h2 : (s.toList == [114, 111, 119, 115]) = false) (h3 : (s.toList == [109, 101, 97, 110]) = false) (h4 : (s.toList == [99, 111, 110, 102]) = false) (w : World) :
    Calls Tryz.prog 10 #[.string s, u, v] w fun e w' => e = .returned (.tuple #[.string ⟨#[]⟩, .int .i64 3]) ∧ w = w' := by
  go_enter Tryz.func10, Tryz.ntmps10
  go_wp2_with fail
  go_ret2
  exact ⟨rfl, rfl⟩
set_option maxRecDepth 100000 in
set_option maxHeartbeats 4000000 in
theorem toolOther_any (ha : AwakeRuns) (s : ByteArray) (A1 A2 : Option Addr) (n1 c1 n2 c2 : Nat) (hs : s.size ≤ 9223372036854775807) (hn1 : n1 ≤ 9223372036854775807) (hn2 : n2 ≤ 9223372036854775807) (w : World) (hm : Hid (Known w)) :
    Calls Tryz.prog 4 #[.string s, .slice A1 n1 c1, .slice A2 n2 c2] w fun e w' => e = .returned (.bool true) ∧ Below w.heap.size w w' := by
  go_enter Tryz.func4, Tryz.ntmps4
  go_wp2_with (first | (go_at_call 8; refine (awake_own ha hm.out _ (Below.refl _ _)).mono ?_; rintro e w' ⟨rfl, hb⟩))
  · go_ret
    exact ⟨rfl, hb⟩
  · go_loopw [7] (fun i wr => ∃ k : Nat, k ≤ 5 ∧ i = .int .i64 k ∧ Hid (NoCmd s k) ∧ Below w.heap.size w wr) (fun i _ => 5 - (intOf i).toNat)
    case atStart => exact ⟨0, by omega, rfl, Lib.hid ⟨fun h => by omega, fun h => by omega, fun h => by omega, fun h => by omega, fun h => by omega⟩, Below.refl _ _⟩
    case round =>
      obtain ⟨k, hk, rfl, HN, hbw⟩ := hrel
      rcases (show k = 0 ∨ k = 1 ∨ k = 2 ∨ k = 3 ∨ k = 4 ∨ k = 5 by omega) with rfl | rfl | rfl | rfl | rfl | rfl
      · go_wp2_with (first | (go_at_call 9; refine (command_0 _).mono ?_; rintro e w' ⟨rfl, hb⟩; have hb2 := hbw.trans (hb.mono hbw.size); clear hb) | (go_at_call 8; refine (awake_own ha hm.out _ hb2).mono ?_; rintro e w' ⟨rfl, hb⟩; have hb3 := hb2.trans (hb.mono hb2.size); clear hb))
        · go_ret
          exact ⟨rfl, hb3⟩
        · go_roundw
          case rel => exact ⟨1, by omega, by go_num, Lib.hid ⟨fun _ => by assumption, fun h => by omega, fun h => by omega, fun h => by omega, fun h => by omega⟩, hb2⟩
          case measure => simp [intOf]
      · go_wp2_with (first | (go_at_call 9; refine (command_1 _).mono ?_; rintro e w' ⟨rfl, hb⟩; have hb2 := hbw.trans (hb.mono hbw.size); clear hb) | (go_at_call 8; refine (awake_own ha hm.out _ hb2).mono ?_; rintro e w' ⟨rfl, hb⟩; have hb3 := hb2.trans (hb.mono hb2.size); clear hb))
        · go_ret
          exact ⟨rfl, hb3⟩
        · go_roundw
          case rel => exact ⟨2, by omega, by go_num, Lib.hid ⟨fun _ => HN.out.1 (by omega), fun _ => by assumption, fun h => by omega, fun h => by omega, fun h => by omega⟩, hb2⟩
          case measure => simp [intOf]
      · go_wp2_with (first | (go_at_call 9; refine (command_2 _).mono ?_; rintro e w' ⟨rfl, hb⟩; have hb2 := hbw.trans (hb.mono hbw.size); clear hb) | (go_at_call 8; refine (awake_own ha hm.out _ hb2).mono ?_; rintro e w' ⟨rfl, hb⟩; have hb3 := hb2.trans (hb.mono hb2.size); clear hb))
        · go_ret
          exact ⟨rfl, hb3⟩
        · go_roundw
          case rel => exact ⟨3, by omega, by go_num, Lib.hid ⟨fun _ => HN.out.1 (by omega), fun _ => HN.out.2.1 (by omega), fun _ => by assumption, fun h => by omega, fun h => by omega⟩, hb2⟩
          case measure => simp [intOf]
      · go_wp2_with (first | (go_at_call 9; refine (command_3 _).mono ?_; rintro e w' ⟨rfl, hb⟩; have hb2 := hbw.trans (hb.mono hbw.size); clear hb) | (go_at_call 8; refine (awake_own ha hm.out _ hb2).mono ?_; rintro e w' ⟨rfl, hb⟩; have hb3 := hb2.trans (hb.mono hb2.size); clear hb))
        · go_ret
          exact ⟨rfl, hb3⟩
        · go_roundw
          case rel => exact ⟨4, by omega, by go_num, Lib.hid ⟨fun _ => HN.out.1 (by omega), fun _ => HN.out.2.1 (by omega), fun _ => HN.out.2.2.1 (by omega), fun _ => by assumption, fun h => by omega⟩, hb2⟩
          case measure => simp [intOf]
      · go_wp2_with (first | (go_at_call 9; refine (command_4 _).mono ?_; rintro e w' ⟨rfl, hb⟩; have hb2 := hbw.trans (hb.mono hbw.size); clear hb) | (go_at_call 8; refine (awake_own ha hm.out _ hb2).mono ?_; rintro e w' ⟨rfl, hb⟩; have hb3 := hb2.trans (hb.mono hb2.size); clear hb))
        · go_ret
          exact ⟨rfl, hb3⟩
        · go_roundw
          case rel => exact ⟨5, by omega, by go_num, Lib.hid ⟨fun _ => HN.out.1 (by omega), fun _ => HN.out.2.1 (by omega), fun _ => HN.out.2.2.1 (by omega), fun _ => HN.out.2.2.2.1 (by omega), fun _ => by assumption⟩, hb2⟩
          case measure => simp [intOf]
      · have q0 := HN.out.1 (by omega)
        have q1 := HN.out.2.1 (by omega)
        have q2 := HN.out.2.2.1 (by omega)
        have q3 := HN.out.2.2.2.1 (by omega)
        have q4 := HN.out.2.2.2.2 (by omega)
        go_wp2_with (first | (go_at_call 10; refine (run_any _ _ _ q0 q1 q2 q3 q4 _).mono ?_; rintro e w' ⟨rfl, rfl⟩) | (go_at_call 8; refine (awake_own ha hm.out _ hbw).mono ?_; rintro e w' ⟨rfl, hb⟩; have hb3 := hbw.trans (hb.mono hbw.size); clear hb))
        all_goals go_ret
        all_goals exact ⟨rfl, hb3⟩
  · go_ret
    exact ⟨rfl, hb⟩
  · go_ret
    exact ⟨rfl, hb⟩
end Go.Proofs.YtplgalgoplmkfaaGreatDoor
