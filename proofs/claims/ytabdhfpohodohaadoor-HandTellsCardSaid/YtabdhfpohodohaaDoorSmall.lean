/-
  Contracts of the small functions of sign, hand and bosketref1 that only look at one byte.
-/
import Derived.Test.YtabdhfpohodohaaDoorRows
import Derived.Test.YtabdhfpohodohaaDoorHandSpec
import Derived.WalkKit
import Derived.WalkSpells
import Derived.WalkLawsBesides
import Derived.Deep.Light
namespace Go.Proofs.YtabdhfpohodohaaDoor
open Go.RowKit

theorem ret_bool {a b : Bool} (h : a = b) : Ending.returned (.bool a) = Ending.returned (.bool b) := by rw [h]
theorem ret_int {k : IntKind} {a b : Int} (h : a = b) : Ending.returned (.int k a) = Ending.returned (.int k b) := by rw [h]

set_option maxHeartbeats 400000 in
theorem hex_any (c : Int) (w : World) :
    Calls Tryd.prog 51 #[.int .u8 c] w fun e w' => e = .returned (.bool (hexZ c)) ∧ w = w' := by
  go_enter Tryd.func51, Tryd.ntmps51
  go_wp2
  all_goals go_ret
  all_goals exact ⟨ret_bool (by first | (simp only [hexZ]; rw [Bool.eq_iff_iff]; simp; omega) | (simp [hexZ]; omega)), rfl⟩

set_option maxHeartbeats 400000 in
theorem flow_any (c : Int) (w : World) :
    Calls Tryd.prog 16 #[.int .u8 c] w fun e w' => e = .returned (.bool (flowZ c)) ∧ w = w' := by
  go_enter Tryd.func16, Tryd.ntmps16
  go_wp2
  all_goals go_ret
  all_goals exact ⟨ret_bool (by simp [flowZ, *]), rfl⟩

set_option maxHeartbeats 400000 in
theorem word_any (c : Int) (w : World) :
    Calls Tryd.prog 43 #[.int .u8 c] w fun e w' => e = .returned (.bool (wordZ c)) ∧ w = w' := by
  go_enter Tryd.func43, Tryd.ntmps43
  go_wp2
  all_goals go_ret
  all_goals exact ⟨ret_bool (by simp [wordZ, *]; try omega), rfl⟩

set_option maxHeartbeats 1000000 in
theorem uri_any (c : Int) (w : World) :
    Calls Tryd.prog 40 #[.int .u8 c] w fun e w' => e = .returned (.bool (uriZ c)) ∧ w = w' := by
  go_enter Tryd.func40, Tryd.ntmps40
  go_wp2_with (go_at_call 43; refine (word_any _ _).mono ?_; rintro e w' ⟨rfl, rfl⟩)
  all_goals go_ret
  all_goals exact ⟨ret_bool (by simp [uriZ, *]), rfl⟩

set_option maxHeartbeats 400000 in
theorem percent_any (s : ByteArray) (w : World) :
    Calls Tryd.prog 41 #[.string s] w fun e w' => e = .returned (.bool (percentS s)) ∧ w = w' := by
  go_enter Tryd.func41, Tryd.ntmps41
  go_wp2_with (go_at_call 51; refine (hex_any _ _).mono ?_; rintro e w' ⟨rfl, rfl⟩)
  · go_ret
    have h : (3 : Int) ≤ s.size := by assumption
    have h1 : hexZ (s[1]'(by omega)).toNat = true := by assumption
    refine ⟨ret_bool ?_, rfl⟩
    rw [percentS, percentL_at s (by omega)]
    simp [hexB, h1]
  · go_ret
    have h : (3 : Int) ≤ s.size := by assumption
    have h1 : ¬ hexZ (s[1]'(by omega)).toNat = true := by assumption
    refine ⟨ret_bool ?_, rfl⟩
    rw [percentS, percentL_at s (by omega)]
    simp [hexB, h1]
  · go_ret
    have h : (s.size : Int) < 3 := by assumption
    exact ⟨ret_bool (percentL_short s (by omega)).symm, rfl⟩

set_option maxHeartbeats 1000000 in
theorem uris_no (s : ByteArray) (w : World) (hs : s.size ≤ 140737488355328) :
    Calls Tryd.prog 27 #[.string s, .bool false] w fun e w' => ∃ n : Nat, e = .returned (.int .i64 n) ∧ Hid (n = urisS false s) ∧ n ≤ s.size ∧ w = w' := by
  go_enter Tryd.func27, Tryd.ntmps27
  go_wp2
  go_loop [5] (fun n => ∃ k : Nat, k ≤ s.size ∧ n = .int .i64 k ∧ Hid (urisS false s = k + urisL false (s.data.toList.drop k))) (fun n => s.size - (intOf n).toNat)
  case atStart => exact ⟨0, Nat.zero_le _, rfl, Lib.hid (by simp [urisS])⟩
  case round =>
    obtain ⟨k, hk, rfl, HR⟩ := hrel
    by_cases hlt : k < s.size
    · go_wp2_with (first | (go_at_call 40; refine (uri_any _ _).mono ?_; rintro e w' ⟨rfl, rfl⟩) | (go_at_call 16; refine (flow_any _ _).mono ?_; rintro e w' ⟨rfl, rfl⟩) | (go_at_call 41; refine (percent_any _ _).mono ?_; rintro e w' ⟨rfl, rfl⟩))
      all_goals first
        | (go_round
           case rel =>
             refine ⟨k + 1, ?_, by go_num, Lib.hid ?_⟩
             · omega
             · go_light
               rw [HR.out, uris_step s false k hlt]
               split
               · omega
               · exfalso; simp_all
           case measure => simp [intOf]; omega)
        | (go_ret
           refine ⟨k, rfl, Lib.hid ?_, ?_, rfl⟩
           · go_light
             rw [HR.out, uris_step s false k hlt]
             split
             · exfalso; simp_all
             · omega
           · omega)
    · go_wp2
      go_ret
      exact ⟨k, rfl, Lib.hid (by rw [HR.out, uris_end false s k (by omega)]; omega), by omega, rfl⟩

set_option maxHeartbeats 1000000 in
theorem uris_yes (s : ByteArray) (w : World) (hs : s.size ≤ 140737488355328) :
    Calls Tryd.prog 27 #[.string s, .bool true] w fun e w' => ∃ n : Nat, e = .returned (.int .i64 n) ∧ Hid (n = urisS true s) ∧ n ≤ s.size ∧ w = w' := by
  go_enter Tryd.func27, Tryd.ntmps27
  go_wp2
  go_loop [5] (fun n => ∃ k : Nat, k ≤ s.size ∧ n = .int .i64 k ∧ Hid (urisS true s = k + urisL true (s.data.toList.drop k))) (fun n => s.size - (intOf n).toNat)
  case atStart => exact ⟨0, Nat.zero_le _, rfl, Lib.hid (by simp [urisS])⟩
  case round =>
    obtain ⟨k, hk, rfl, HR⟩ := hrel
    by_cases hlt : k < s.size
    · go_wp2_with (first | (go_at_call 40; refine (uri_any _ _).mono ?_; rintro e w' ⟨rfl, rfl⟩) | (go_at_call 16; refine (flow_any _ _).mono ?_; rintro e w' ⟨rfl, rfl⟩) | (go_at_call 41; refine (percent_any _ _).mono ?_; rintro e w' ⟨rfl, rfl⟩))
      all_goals first
        | (go_round
           case rel =>
             refine ⟨k + 1, ?_, by go_num, Lib.hid ?_⟩
             · omega
             · go_light
               rw [HR.out, uris_step s true k hlt]
               split
               · omega
               · exfalso; simp_all
           case measure => simp [intOf]; omega)
        | (go_ret
           refine ⟨k, rfl, Lib.hid ?_, ?_, rfl⟩
           · go_light
             rw [HR.out, uris_step s true k hlt]
             split
             · exfalso; simp_all
             · omega
           · omega)
    · go_wp2
      go_ret
      exact ⟨k, rfl, Lib.hid (by rw [HR.out, uris_end true s k (by omega)]; omega), by omega, rfl⟩

theorem uris_any (s : ByteArray) (t : Bool) (w : World) (hs : s.size ≤ 140737488355328) :
    Calls Tryd.prog 27 #[.string s, .bool t] w fun e w' => ∃ n : Nat, e = .returned (.int .i64 n) ∧ Hid (n = urisS t s) ∧ n ≤ s.size ∧ w = w' := by
  cases t
  · exact uris_no s w hs
  · exact uris_yes s w hs

set_option maxHeartbeats 1000000 in
theorem handle_any (s : ByteArray) (w : World) (hs : s.size ≤ 140737488355328) :
    Calls Tryd.prog 29 #[.string s] w fun e w' => ∃ n : Nat, e = .returned (.int .i64 n) ∧ Hid (n = handleS s) ∧ n ≤ s.size ∧ w = w' := by
  go_enter Tryd.func29, Tryd.ntmps29
  go_wp2
  go_loop [3] (fun n => ∃ k : Nat, k ≤ s.size + 1 ∧ n = .int .i64 k ∧ Hid (1 + wordsL (s.data.toList.drop 1) = k + wordsL (s.data.toList.drop k))) (fun n => s.size - (intOf n).toNat)
  case atStart => exact ⟨1, by omega, rfl, Lib.hid rfl⟩
  case round =>
    obtain ⟨k, hk, rfl, HR⟩ := hrel
    by_cases hlt : k < s.size
    · go_wp2_with (go_at_call 43; refine (word_any _ _).mono ?_; rintro e w' ⟨rfl, rfl⟩)
      all_goals first
        | (go_round
           case rel => (refine ⟨k + 1, ?_, by go_num, Lib.hid ?_⟩; omega; go_light; rw [HR.out, words_step s k hlt]; split; omega; exfalso; simp_all)
           case measure => simp [intOf]; omega)
        | (have hw : wordZ (s[k].toNat : Int) = false := by assumption
           have h33 : ((s[k].toNat : Int) == 33) = true := by assumption
           go_ret
           exact ⟨k + 1, by go_num, Lib.hid (by rw [handle_at s k HR.out hlt hw, if_pos (by simpa using h33)]), by omega, rfl⟩)
        | (have hw : wordZ (s[k].toNat : Int) = false := by assumption
           have h33 : ((s[k].toNat : Int) == 33) = false := by assumption
           go_ret
           exact ⟨0, rfl, Lib.hid (by rw [handle_at s k HR.out hlt hw, if_neg (by simpa using h33)]), by omega, rfl⟩)
    · go_wp2
      go_ret
      exact ⟨0, rfl, Lib.hid (handle_out s k HR.out (by omega)).symm, by omega, rfl⟩
end Go.Proofs.YtabdhfpohodohaaDoor
