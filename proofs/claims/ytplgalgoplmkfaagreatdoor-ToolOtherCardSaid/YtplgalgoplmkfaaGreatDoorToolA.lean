/-
  How a fault is told: tool.Word and bosketref22.Word give the same text ('wordS').
-/
import Derived.Test.YtplgalgoplmkfaaGreatDoorCutShelf
import Derived.Test.YtplgalgoplmkfaaGreatDoorMem
import Derived.WalkKit
import Derived.WalkSpells
import Derived.WalkLawsBesides
import Derived.Deep.Light
import Derived.Deep.RegionWith
import Derived.Deep.RegionHeld3
import Derived.Deep.CutBlock
import Derived.Deep.CutRange
import Derived.Lib.ItoaLen
import Derived.Lib.AppendIntMem
set_option linter.unusedVariables false
set_option linter.unusedSimpArgs false
set_option linter.unnecessarySimpa false
set_option linter.all false
namespace Go.Proofs.YtplgalgoplmkfaaGreatDoor
open Go.RowKit

/-- the digits of a number. -/
def itB (n : Int) : ByteArray := ⟨(Lib.itoa n).toArray⟩
/-- the word of a code. -/
def kindB (c : Int) : ByteArray :=
  if c = 1 then ⟨#[97, 114, 103]⟩ else if c = 2 then ⟨#[108, 111, 110, 103]⟩ else if c = 3 then ⟨#[116, 101, 120, 116]⟩ else if c = 4 then ⟨#[116, 97, 98]⟩ else if c = 5 then ⟨#[102, 111, 114, 109]⟩ else if c = 6 then ⟨#[100, 101, 101, 112]⟩ else if c = 7 then ⟨#[110, 97, 109, 101]⟩ else if c = 8 then ⟨#[116, 97, 103]⟩ else if c = 9 then ⟨#[99, 111, 110, 102]⟩ else ⟨#[99, 111, 100, 101]⟩
/-- how a fault is told. -/
def wordS (c l k : Int) : ByteArray := if c = 0 then ⟨#[]⟩ else kindB c ++ ⟨#[32]⟩ ++ itB l ++ ⟨#[58]⟩ ++ itB k
theorem wordS_no (c l k : Int) (h : ¬ c = 0) : wordS c l k = kindB c ++ ⟨#[32]⟩ ++ itB l ++ ⟨#[58]⟩ ++ itB k := if_neg h
theorem word_close {c l k : Int} {kb s1 s2 : ByteArray} (h : Hid (wordS c l k = kb ++ ⟨#[32]⟩ ++ itB l ++ ⟨#[58]⟩ ++ itB k)) (h1 : Hid (s1 = itB l)) (h2 : Hid (s2 = itB k)) : kb ++ ⟨#[32]⟩ ++ s1 ++ ⟨#[58]⟩ ++ s2 = wordS c l k := by rw [h.out, h1.out, h2.out]
theorem itB_size (n : Int) (h0 : -9223372036854775808 ≤ n) (h1 : n ≤ 9223372036854775807) : (itB n).size ≤ 21 := by
  have := Lib.itoa_length_le n h0 h1
  show (Lib.itoa n).toArray.size ≤ 21
  simpa using this
theorem kindB_size (c : Int) : (kindB c).size ≤ 4 := by unfold kindB; (repeat' split) <;> decide

/-- the table that strconv.Itoa reads. -/
def Pow (w : World) : Prop := Lib.TabIs Tryz.prog w "internal/strconv.uint64pow10" .u64 Lib.pow10Tab
theorem gPow : Tryz.prog.globalNamed "internal/strconv.uint64pow10" = some 0 := by kernel_rfl
theorem Pow.below {w w' : World} (h : Pow w) (hb : Below w.heap.size w w') : Pow w' := by
  unfold Pow Lib.TabIs World.var? at h ⊢
  rw [gPow] at h ⊢
  simp only [Option.bind_some] at h ⊢
  have hlt : 0 < w.heap.size := by
    rcases Nat.lt_or_ge 0 w.heap.size with h' | h'
    · exact h'
    · rw [Array.getElem?_eq_none h'] at h; cases h
  rw [hb.block _ hlt]
  exact h
theorem itoa_any (n : Int) (h0 : -9223372036854775808 ≤ n) (h1 : n ≤ 9223372036854775807) (w : World) (hp : Hid (Pow w)) :
    Calls Tryz.prog 11 #[.int .i64 n] w fun e w' => ∃ s : ByteArray, e = .returned (.string s) ∧ Hid (s = itB n) ∧ s.size ≤ 21 ∧ Below w.heap.size w w' := by
  refine (Tryz.strconv_Itoa n h0 h1 w hp.out).mono ?_
  rintro e w' ⟨rfl, k, os, rfl⟩
  exact ⟨_, rfl, Lib.hid rfl, itB_size n h0 h1, Lib.below_grow _ _ (Nat.le_refl _) _ _⟩

theorem itoa_in (n : Int) (h0 : -9223372036854775808 ≤ n) (h1 : n ≤ 9223372036854775807) (w0 w : World) (g : Nat) (t : TypeId) (cs : Array Value) (hp : Hid (Pow w0)) (hb : Below w0.heap.size w0 w) (hB : Blk w g t cs) :
    Calls Tryz.prog 11 #[.int .i64 n] w fun e w' => ∃ s : ByteArray, e = .returned (.string s) ∧ Hid (s = itB n) ∧ s.size ≤ 21 ∧ Below w0.heap.size w0 w' ∧ Blk w' g t cs :=
  (itoa_any n h0 h1 w (Lib.hid (hp.out.below hb))).mono fun e w' ⟨s, h1, h2, h3, h4⟩ => ⟨s, h1, h2, h3, hb.trans (h4.mono hb.size), hB.below h4 hB.lt⟩
theorem cat_any (x y : ByteArray) (h : x.size + y.size ≤ 1000) : ∀ W : World, (Op.stringOp .add x y).run Tryz.prog W = .ok (.string (x ++ y)) W := fun W => run_string_add_sum W x y (by omega)
/-- what a call that tells a fault hands back. -/
def RetS (s : ByteArray) (w : World) (e : Ending) (w' : World) : Prop := e = .returned (.string s) ∧ Below w.heap.size w w'
theorem RetS.mk {s r : ByteArray} {w w' : World} (h : r = s) (hb : Below w.heap.size w w') : RetS s w (.returned (.string r)) w' := ⟨by rw [h], hb⟩

/-! ### The digits of bosketref22 -/
/-- a digit. -/
def digB (r : Nat) : ByteArray := ⟨#[UInt8.ofNat (48 + r)]⟩
theorem digB_size (r : Nat) : (digB r).size = 1 := rfl
theorem dig_ext : ∀ r : Nat, r < 10 → (⟨#[48, 49, 50, 51, 52, 53, 54, 55, 56, 57]⟩ : ByteArray).extract r (1 + r) = digB r := by
  have h : ∀ r : Nat, r < 10 → (⟨#[48, 49, 50, 51, 52, 53, 54, 55, 56, 57]⟩ : ByteArray).extract r (1 + r) = ⟨#[UInt8.ofNat (48 + r)]⟩ := by decide +kernel
  exact h
theorem tmod_neg (m : Nat) : Int.tmod (-(m : Int)) 10 = -((m % 10 : Nat) : Int) := by rw [Int.neg_tmod]; rfl
theorem tdiv_neg (m : Nat) : Int.tdiv (-(m : Int)) 10 = -((m / 10 : Nat) : Int) := by rw [Int.neg_tdiv]; rfl
/-- the digits of a number that is none below 0. -/
def decB (m : Nat) : ByteArray := ⟨(Lib.decDigits m).toArray⟩
theorem decB_it (m : Nat) : itB m = decB m := by unfold itB decB; rw [Lib.itoa_nonneg]
theorem decB_size (m : Nat) (h : m ≤ 9223372036854775807) : (decB m).size ≤ 21 := by rw [← decB_it]; exact itB_size m (by omega) (by omega)
theorem decB_small (m : Nat) (h : m < 10) : decB m = digB m := by unfold decB digB; rw [Lib.decDigits, dif_pos h]
theorem decB_big (m : Nat) (h : ¬ m < 10) : decB m = decB (m / 10) ++ digB (m % 10) := by
  unfold decB digB
  rw [Lib.decDigits, dif_neg h]
  apply ByteArray.ext
  simp
theorem tens_any : ∀ (m : Nat) (w : World), m ≤ 9223372036854775807 →
    Calls Tryz.prog 20 #[.int .i64 (-(m : Int))] w fun e w' => ∃ s : ByteArray, e = .returned (.string s) ∧ Hid (s = decB m) ∧ s.size ≤ 21 ∧ w = w' := by
  intro m
  induction m using Nat.strongRecOn with
  | _ m ih =>
    intro w hm
    have e1 := tmod_neg m
    have e2 := tdiv_neg m
    have hr : m % 10 < 10 := Nat.mod_lt _ (by decide)
    go_enter Tryz.func20, Tryz.ntmps20
    go_wp2_with fail
    · go_ret
      have hd := dig_ext (m % 10) hr
      have hlt : m < 10 := by omega
      refine ⟨_, rfl, Lib.hid ?_, ?_, rfl⟩
      · show ByteArray.extract _ (m % 10) (1 + m % 10) = _
        rw [hd, decB_small m hlt, Nat.mod_eq_of_lt hlt]
      · show (ByteArray.extract _ (m % 10) (1 + m % 10)).size ≤ 21
        rw [hd, digB_size]; decide
    · have hge : ¬ m < 10 := by omega
      have h := ih (m / 10) (by omega) w (by omega)
      have ec : ((m / 10 : Nat) : Int) = (m : Int) / 10 := by omega
      rw [ec] at h
      refine h.mono ?_
      rintro e w' ⟨s, rfl, Hs, hs, rfl⟩
      have HD := Lib.hid (dig_ext (m % 10) hr)
      have hxs : (ByteArray.extract ⟨#[48, 49, 50, 51, 52, 53, 54, 55, 56, 57]⟩ (m % 10) (1 + m % 10)).size ≤ 1 := by rw [HD.out, digB_size]; decide
      generalize ByteArray.extract ⟨#[48, 49, 50, 51, 52, 53, 54, 55, 56, 57]⟩ (m % 10) (1 + m % 10) = x at HD hxs ⊢
      go_wp2_with fail
      go_ret
      refine ⟨_, rfl, Lib.hid ?_, ?_, rfl⟩
      · rw [HD.out, Hs.out, decB_big m hge]
      · rw [HD.out, Hs.out, ← decB_big m hge]
        exact decB_size m hm
theorem digits_any (n : Int) (h0 : 0 ≤ n) (h1 : n ≤ 9223372036854775807) (w : World) :
    Calls Tryz.prog 12 #[.int .i64 n] w fun e w' => ∃ s : ByteArray, e = .returned (.string s) ∧ Hid (s = itB n) ∧ s.size ≤ 21 ∧ w = w' := by
  obtain ⟨m, rfl⟩ : ∃ m : Nat, n = m := ⟨n.toNat, by omega⟩
  have h := tens_any m w (by omega)
  go_enter Tryz.func12, Tryz.ntmps12
  go_wp2_with fail
  refine h.mono ?_
  rintro e w' ⟨s, rfl, Hs, hs, rfl⟩
  go_wp2_with fail
  go_ret
  exact ⟨_, rfl, Lib.hid (by rw [decB_it]; exact Hs.out), hs, rfl⟩
theorem kind_1 {c : Int} (h : (c == 1) = true) : kindB c = ⟨#[97, 114, 103]⟩ := by
  obtain rfl : c = 1 := by simpa using h
  rfl
theorem kind_2 {c : Int} (h : (c == 2) = true) : kindB c = ⟨#[108, 111, 110, 103]⟩ := by
  obtain rfl : c = 2 := by simpa using h
  rfl
theorem kind_3 {c : Int} (h : (c == 3) = true) : kindB c = ⟨#[116, 101, 120, 116]⟩ := by
  obtain rfl : c = 3 := by simpa using h
  rfl
theorem kind_4 {c : Int} (h : (c == 4) = true) : kindB c = ⟨#[116, 97, 98]⟩ := by
  obtain rfl : c = 4 := by simpa using h
  rfl
theorem kind_5 {c : Int} (h : (c == 5) = true) : kindB c = ⟨#[102, 111, 114, 109]⟩ := by
  obtain rfl : c = 5 := by simpa using h
  rfl
theorem kind_6 {c : Int} (h : (c == 6) = true) : kindB c = ⟨#[100, 101, 101, 112]⟩ := by
  obtain rfl : c = 6 := by simpa using h
  rfl
theorem kind_7 {c : Int} (h : (c == 7) = true) : kindB c = ⟨#[110, 97, 109, 101]⟩ := by
  obtain rfl : c = 7 := by simpa using h
  rfl
theorem kind_8 {c : Int} (h : (c == 8) = true) : kindB c = ⟨#[116, 97, 103]⟩ := by
  obtain rfl : c = 8 := by simpa using h
  rfl
theorem kind_9 {c : Int} (h : (c == 9) = true) : kindB c = ⟨#[99, 111, 110, 102]⟩ := by
  obtain rfl : c = 9 := by simpa using h
  rfl
theorem kind_d {c : Int} (h1 : (c == 1) = false) (h2 : (c == 2) = false) (h3 : (c == 3) = false) (h4 : (c == 4) = false) (h5 : (c == 5) = false) (h6 : (c == 6) = false) (h7 : (c == 7) = false) (h8 : (c == 8) = false) (h9 : (c == 9) = false) : kindB c = ⟨#[99, 111, 100, 101]⟩ := by
  simp only [beq_eq_false_iff_ne, ne_eq] at h1 h2 h3 h4 h5 h6 h7 h8 h9
  simp only [kindB, h1, h2, h3, h4, h5, h6, h7, h8, h9, if_false]

set_option maxRecDepth 100000 in
set_option maxHeartbeats 4000000 in
theorem word_any (c l k : Int) (hl0 : 0 ≤ l) (hl1 : l ≤ 9223372036854775807) (hk0 : 0 ≤ k) (hk1 : k ≤ 9223372036854775807) (w : World) (hp : Hid (Pow w)) :
    Calls Tryz.prog 6 #[.agg #[.int .i64 c, .int .i64 l, .int .i64 k]] w (RetS (wordS c l k) w) := by
  go_enter Tryz.func6, Tryz.ntmps6
  have hb0 : Below w.heap.size w (w.alloc (.cells #[.int .i64 c, .int .i64 l, .int .i64 k] 24)) := (Below.refl _ _).alloc (Nat.le_refl _) _
  have hB0 := Blk.new w 24 #[.int .i64 c, .int .i64 l, .int .i64 k]
  have hb1 := hb0.drew
  have hB1 := hB0.drew
  go_upto_block 0 with fail
  go_cut [3] from 6 to 25 (fun s3 wx => s3 = .string (kindB c) ∧ ¬ c = 0 ∧ wx = w.alloc (.cells #[.int .i64 c, .int .i64 l, .int .i64 k] 24))
  case first =>
    go_wp2_with fail
    · go_ret
      exact RetS.mk (by rw [wordS, if_pos (by simpa using ‹(c == 0) = true›)]) hb0
    all_goals (go_meet; exact ⟨by first | exact congrArg Value.string (kind_1 ‹(c == 1) = true›).symm | exact congrArg Value.string (kind_2 ‹(c == 2) = true›).symm | exact congrArg Value.string (kind_3 ‹(c == 3) = true›).symm | exact congrArg Value.string (kind_4 ‹(c == 4) = true›).symm | exact congrArg Value.string (kind_5 ‹(c == 5) = true›).symm | exact congrArg Value.string (kind_6 ‹(c == 6) = true›).symm | exact congrArg Value.string (kind_7 ‹(c == 7) = true›).symm | exact congrArg Value.string (kind_8 ‹(c == 8) = true›).symm | exact congrArg Value.string (kind_9 ‹(c == 9) = true›).symm | exact congrArg Value.string (kind_d ‹(c == 1) = false› ‹(c == 2) = false› ‹(c == 3) = false› ‹(c == 4) = false› ‹(c == 5) = false› ‹(c == 6) = false› ‹(c == 7) = false› ‹(c == 8) = false› ‹(c == 9) = false›).symm, by simpa using ‹(c == 0) = false›, rfl⟩)
  case rest =>
    obtain ⟨rfl, hc, rfl⟩ := hcut
    have hks := kindB_size c
    have HW := Lib.hid (wordS_no c l k hc)
    generalize kindB c = kb at hks HW ⊢
    have c1 := cat_any kb ⟨#[32]⟩ (by show kb.size + 1 ≤ 1000; omega)
    go_wp2_with fail
    go_region_held3 (fun w' => w'.cell? ⟨w.heap.size, 1, none⟩ = some (.int .i64 l) ∧ w'.cell? ⟨w.heap.size, 2, none⟩ = some (.int .i64 k) ∧ Below w.heap.size w w' ∧ Blk w' w.heap.size 24 #[.int .i64 c, .int .i64 l, .int .i64 k])
      (first | exact ⟨hB.cell 1, hB.cell 2, hb, hB⟩ | exact ⟨hB1.cell 1, hB1.cell 2, hb1, hB1⟩)
      (first
        | (go_at_call_of 11 l; refine (itoa_in l (by omega) (by omega) w _ w.heap.size 24 #[.int .i64 c, .int .i64 l, .int .i64 k] hp (by first | exact hb | exact hb1) (by first | exact hB | exact hB1)).mono ?_; rintro e w' ⟨s1, rfl, Hs1, hs1, hb, hB⟩; have c2 := cat_any (kb ++ ⟨#[32]⟩) s1 (by simp only [ByteArray.size_append]; show kb.size + 1 + s1.size ≤ 1000; omega); have c3 := cat_any (kb ++ ⟨#[32]⟩ ++ s1) ⟨#[58]⟩ (by simp only [ByteArray.size_append]; show kb.size + 1 + s1.size + 1 ≤ 1000; omega))
        | (go_at_call_of 11 k; refine (itoa_in k (by omega) (by omega) w _ w.heap.size 24 #[.int .i64 c, .int .i64 l, .int .i64 k] hp (by first | exact hb | exact hb1) (by first | exact hB | exact hB1)).mono ?_; rintro e w' ⟨s2, rfl, Hs2, hs2, hb, hB⟩; have c4 := cat_any (kb ++ ⟨#[32]⟩ ++ s1 ++ ⟨#[58]⟩) s2 (by simp only [ByteArray.size_append]; show kb.size + 1 + s1.size + 1 + s2.size ≤ 1000; omega)))
    all_goals go_wp2_with fail
    all_goals go_ret
    all_goals exact RetS.mk (word_close HW (by assumption) (by assumption)) hb
set_option maxRecDepth 100000 in
set_option maxHeartbeats 4000000 in
theorem refword_any (c l k : Int) (hl0 : 0 ≤ l) (hl1 : l ≤ 9223372036854775807) (hk0 : 0 ≤ k) (hk1 : k ≤ 9223372036854775807) (w : World) :
    Calls Tryz.prog 7 #[.agg #[.int .i64 c, .int .i64 l, .int .i64 k]] w (RetS (wordS c l k) w) := by
  go_enter Tryz.func7, Tryz.ntmps7
  have hb0 : Below w.heap.size w (w.alloc (.cells #[.int .i64 c, .int .i64 l, .int .i64 k] 24)) := (Below.refl _ _).alloc (Nat.le_refl _) _
  have hB0 := Blk.new w 24 #[.int .i64 c, .int .i64 l, .int .i64 k]
  have hb1 := hb0.drew
  have hB1 := hB0.drew
  go_upto_block 0 with fail
  · go_ret
    exact RetS.mk (by rw [wordS, if_pos (by simpa using ‹(c == 0) = true›)]) hb0
  have h00 : (c == 0) = false := by assumption
  go_cut [3] from 9 to 26 (fun s3 wx => s3 = .string (kindB c) ∧ wx = w.alloc (.cells #[.int .i64 c, .int .i64 l, .int .i64 k] 24))
  case first =>
    go_wp2_with fail
    all_goals (go_meet; exact ⟨by first | exact congrArg Value.string (kind_1 ‹(c == 1) = true›).symm | exact congrArg Value.string (kind_2 ‹(c == 2) = true›).symm | exact congrArg Value.string (kind_3 ‹(c == 3) = true›).symm | exact congrArg Value.string (kind_4 ‹(c == 4) = true›).symm | exact congrArg Value.string (kind_5 ‹(c == 5) = true›).symm | exact congrArg Value.string (kind_6 ‹(c == 6) = true›).symm | exact congrArg Value.string (kind_7 ‹(c == 7) = true›).symm | exact congrArg Value.string (kind_8 ‹(c == 8) = true›).symm | exact congrArg Value.string (kind_9 ‹(c == 9) = true›).symm | exact congrArg Value.string (kind_d ‹(c == 1) = false› ‹(c == 2) = false› ‹(c == 3) = false› ‹(c == 4) = false› ‹(c == 5) = false› ‹(c == 6) = false› ‹(c == 7) = false› ‹(c == 8) = false› ‹(c == 9) = false›).symm, rfl⟩)
  case rest =>
    obtain ⟨rfl, rfl⟩ := hcut
    have hc : ¬ c = 0 := by simpa using h00
    have hks := kindB_size c
    have HW := Lib.hid (wordS_no c l k hc)
    generalize kindB c = kb at hks HW ⊢
    have c1 := cat_any kb ⟨#[32]⟩ (by show kb.size + 1 ≤ 1000; omega)
    go_wp2_with fail
    go_region_held3 (fun w' => w'.cell? ⟨w.heap.size, 1, none⟩ = some (.int .i64 l) ∧ w'.cell? ⟨w.heap.size, 2, none⟩ = some (.int .i64 k) ∧ Below w.heap.size w w' ∧ Blk w' w.heap.size 24 #[.int .i64 c, .int .i64 l, .int .i64 k])
      (first | exact ⟨hB1.cell 1, hB1.cell 2, hb1, hB1⟩)
      (first
        | (go_at_call_of 12 l; refine (digits_any l (by omega) (by omega) _).mono ?_; rintro e w' ⟨s1, rfl, Hs1, hs1, rfl⟩; have c2 := cat_any (kb ++ ⟨#[32]⟩) s1 (by simp only [ByteArray.size_append]; show kb.size + 1 + s1.size ≤ 1000; omega); have c3 := cat_any (kb ++ ⟨#[32]⟩ ++ s1) ⟨#[58]⟩ (by simp only [ByteArray.size_append]; show kb.size + 1 + s1.size + 1 ≤ 1000; omega))
        | (go_at_call_of 12 k; refine (digits_any k (by omega) (by omega) _).mono ?_; rintro e w' ⟨s2, rfl, Hs2, hs2, rfl⟩; have c4 := cat_any (kb ++ ⟨#[32]⟩ ++ s1 ++ ⟨#[58]⟩) s2 (by simp only [ByteArray.size_append]; show kb.size + 1 + s1.size + 1 + s2.size ≤ 1000; omega)))
    all_goals go_wp2_with fail
    all_goals go_ret
    all_goals exact RetS.mk (word_close HW (by assumption) (by assumption)) (by first | exact hb1 | assumption)
end Go.Proofs.YtplgalgoplmkfaaGreatDoor
