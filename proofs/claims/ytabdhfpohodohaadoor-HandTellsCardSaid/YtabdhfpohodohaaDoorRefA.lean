/-
  Contracts of the small functions of bosketref1: has, Word, Flow, Uri, Hex, unit.
-/
import Derived.Test.YtabdhfpohodohaaDoorHandG
namespace Go.Proofs.YtabdhfpohodohaaDoor
open Go.RowKit

def hasL (l : Bs) (c : Int) : Bool := l.any fun b => (b.toNat : Int) == c
theorem has_step (s : ByteArray) (c : Int) (k : Nat) (h : k < s.size) : hasL (s.data.toList.drop k) c = ((s[k].toNat : Int) == c || hasL (s.data.toList.drop (k + 1)) c) := by
  rw [drop_step s k h, hasL, List.any_cons]; rfl

set_option maxHeartbeats 400000 in
theorem has_any (s : ByteArray) (c : Int) (w : World) (hs : s.size ≤ 140737488355328) :
    Calls Tryd.prog 50 #[.string s, .int .u8 c] w fun e w' => e = .returned (.bool (hasL s.data.toList c)) ∧ w = w' := by
  go_enter Tryd.func50, Tryd.ntmps50
  go_wp2
  go_loop [5] (fun n => ∃ k : Nat, k ≤ s.size ∧ n = .int .i64 k ∧ Hid (hasL s.data.toList c = hasL (s.data.toList.drop k) c)) (fun n => s.size - (intOf n).toNat)
  case atStart => exact ⟨0, Nat.zero_le _, rfl, Lib.hid rfl⟩
  case round =>
    obtain ⟨k, hk, rfl, HR⟩ := hrel
    by_cases hlt : k < s.size
    · cases hc : ((s[k].toNat : Int) == c)
      · go_wp2
        refine ⟨⟨k + 1, by omega, by go_num, Lib.hid (by rw [HR.out, has_step s c k hlt, hc]; rfl)⟩, by simp [intOf]; omega⟩
      · have HE : Hid (hasL s.data.toList c = true) := Lib.hid (by rw [HR.out, has_step s c k hlt, hc]; rfl)
        go_wp2
        go_ret
        exact ⟨ret_bool HE.out.symm, rfl⟩
    · have HE : Hid (hasL s.data.toList c = false) := Lib.hid (by rw [HR.out, List.drop_eq_nil_of_le (by simpa using hlt)]; rfl)
      go_wp2
      go_ret
      exact ⟨ret_bool HE.out.symm, rfl⟩

set_option maxHeartbeats 400000 in
theorem refWord_any (c : Int) (w : World) :
    Calls Tryd.prog 36 #[.int .u8 c] w fun e w' => e = .returned (.bool (wordZ c)) ∧ w = w' := by
  go_enter Tryd.func36, Tryd.ntmps36
  go_wp2
  all_goals go_ret
  all_goals exact ⟨ret_bool (by first | (simp only [wordZ]; rw [Bool.eq_iff_iff]; simp; omega) | (simp [wordZ]; omega)), rfl⟩

set_option maxHeartbeats 400000 in
theorem refFlow_any (c : Int) (w : World) :
    Calls Tryd.prog 37 #[.int .u8 c] w fun e w' => e = .returned (.bool (flowZ c)) ∧ w = w' := by
  go_enter Tryd.func37, Tryd.ntmps37
  go_wp2_with (go_at_call 50; refine (has_any _ _ _ (by decide)).mono ?_; rintro e w' ⟨rfl, rfl⟩)
  go_ret
  exact ⟨ret_bool (by rw [Bool.eq_iff_iff]; simp [hasL, flowZ]; omega), rfl⟩

set_option maxHeartbeats 400000 in
theorem refUri_any (c : Int) (w : World) :
    Calls Tryd.prog 44 #[.int .u8 c] w fun e w' => e = .returned (.bool (uriZ c)) ∧ w = w' := by
  go_enter Tryd.func44, Tryd.ntmps44
  go_wp2_with (first | (go_at_call 36; refine (refWord_any _ _).mono ?_; rintro e w' ⟨rfl, rfl⟩) | (go_at_call 50; refine (has_any _ _ _ (by decide)).mono ?_; rintro e w' ⟨rfl, rfl⟩))
  · go_ret
    exact ⟨ret_bool (by have h : wordZ c = true := by assumption
                        simp [uriZ, h]), rfl⟩
  · go_ret
    exact ⟨ret_bool (by have h : ¬ wordZ c = true := by assumption
                        rw [Bool.eq_iff_iff]; simp [hasL, uriZ, h]; omega), rfl⟩


/-- what a hex digit tells; -1. -/
def hexW (c : Int) : Int := if 48 ≤ c ∧ c ≤ 57 then c - 48 else if 97 ≤ c ∧ c ≤ 102 then c - 87 else if 65 ≤ c ∧ c ≤ 70 then c - 55 else -1
theorem hexW_neg (c : Int) : hexW c < 0 ↔ hexZ c = false := by
  unfold hexW hexZ
  constructor
  · intro h
    split at h
    · omega
    · split at h
      · omega
      · split at h
        · omega
        · simp; omega
  · intro h
    simp at h
    rw [if_neg (by omega), if_neg (by omega), if_neg (by omega)]; omega
theorem hexW_eq (c : Int) (h : hexZ c = true) : hexW c = hexV c := by
  unfold hexW hexV
  rcases hex_ways h with h | h | h
  · rw [if_pos h, if_pos (by omega)]
  · rw [if_neg (by omega), if_pos h, if_neg (by omega), if_neg (by omega)]
  · rw [if_neg (by omega), if_neg (by omega), if_pos h, if_neg (by omega), if_pos (by omega)]

theorem i32_ret {a b : Int} (h : a = b) : Ending.returned (.int .i32 a) = Ending.returned (.int .i32 b) := by rw [h]
set_option maxHeartbeats 400000 in
theorem refHex_any (c : Int) (hc : 0 ≤ c ∧ c ≤ 255) (w : World) :
    Calls Tryd.prog 25 #[.int .u8 c] w fun e w' => e = .returned (.int .i32 (hexW c)) ∧ w = w' := by
  go_enter Tryd.func25, Tryd.ntmps25
  go_wp2
  all_goals go_ret
  all_goals refine ⟨i32_ret ?_, rfl⟩
  all_goals go_light
  all_goals unfold hexW
  all_goals repeat' split
  all_goals omega

/-- how many bytes from a place on are one Uri. -/
def unitL : Bs → Nat
  | [] => 0
  | c :: r => if uriB c then (if c = 37 then (if percentL (c :: r) then 3 else 0) else 1) else 0
theorem unit_at (s : ByteArray) (k : Nat) (h : k < s.size) : unitL (s.data.toList.drop k) = if uriZ (s[k].toNat : Int) = true then (if (s[k].toNat : Int) = 37 then (if percentS (s.extract k s.size) = true then 3 else 0) else 1) else 0 := by
  rw [drop_step s k h, unitL, ← drop_step s k h, percentS, extract_to_end]
  have e37 : (s[k] = 37) = ((s[k].toNat : Int) = 37) := by
    rw [eq_iff_iff, ← UInt8.toNat_inj]; simp; omega
  simp only [uriB, e37]
theorem percent_at3 (s : ByteArray) (k : Nat) (h : k + 2 < s.size) : percentS (s.extract k s.size) = (hexZ (s[k + 1].toNat : Int) && hexZ (s[k + 2].toNat : Int)) := by
  obtain ⟨q1, e1⟩ := flat_idx s k 1 (by simp; omega)
  obtain ⟨q2, e2⟩ := flat_idx s k 2 (by simp; omega)
  rw [percentS, percentL_at _ (by simp; omega), e1, e2]; rfl
theorem percent_short (s : ByteArray) (k : Nat) (h : s.size < k + 3) : percentS (s.extract k s.size) = false := by
  rw [percentS, percentL_short _ (by simp; omega)]

set_option maxHeartbeats 1000000 in
theorem refUnit_in (s : ByteArray) (k : Nat) (w : World) (hs : s.size ≤ 140737488355328) (hk : k < s.size) :
    Calls Tryd.prog 30 #[.string s, .int .i64 k] w fun e w' => e = .returned (.int .i64 (unitL (s.data.toList.drop k) : Nat)) ∧ w = w' := by
  have HU := Lib.hid (unit_at s k hk)
  have d1 : decide (s.size ≤ k) = false := by simp; omega
  cases hu : uriZ (s[k].toNat : Int)
  · have HE : Hid (unitL (s.data.toList.drop k) = 0) := Lib.hid (by rw [HU.out, if_neg (by simp [hu])])
    clear HU
    go_enter Tryd.func30, Tryd.ntmps30
    go_wp2_with (go_at_call 44; refine (refUri_any _ _).mono ?_; rintro e w' ⟨rfl, rfl⟩)
    go_ret
    exact ⟨ret_int (by rw [HE.out]; rfl), rfl⟩
  · cases h37 : ((s[k].toNat : Int) != 37)
    · have HC := Lib.hid h37
      by_cases h3 : k + 2 < s.size
      · have hx1 := (s[k + 1]).toNat_lt
        have hx2 := (s[k + 2]).toNat_lt
        have d3 : decide ((s.size : Int) - (k : Int) < 3) = false := by simp; omega
        by_cases x1 : hexW (s[k + 1].toNat : Int) < 0
        · have HE : Hid (unitL (s.data.toList.drop k) = 0) := Lib.hid (by
            rw [HU.out, if_pos hu, if_pos (by simpa using HC.out), percent_at3 s k h3, (hexW_neg _).1 x1, if_neg (by simp)])
          clear HU HC
          go_enter Tryd.func30, Tryd.ntmps30
          go_wp2_with (first | (go_at_call 44; refine (refUri_any _ _).mono ?_; rintro e w' ⟨rfl, rfl⟩) | (go_at_call 25; refine (refHex_any _ (by omega) _).mono ?_; rintro e w' ⟨rfl, rfl⟩))
          go_ret
          exact ⟨ret_int (by rw [HE.out]; rfl), rfl⟩
        · by_cases x2 : hexW (s[k + 2].toNat : Int) < 0
          · have HE : Hid (unitL (s.data.toList.drop k) = 0) := Lib.hid (by
              rw [HU.out, if_pos hu, if_pos (by simpa using HC.out), percent_at3 s k h3, (hexW_neg _).1 x2, if_neg (by simp)])
            clear HU HC
            go_enter Tryd.func30, Tryd.ntmps30
            go_wp2_with (first | (go_at_call 44; refine (refUri_any _ _).mono ?_; rintro e w' ⟨rfl, rfl⟩) | (go_at_call 25; refine (refHex_any _ (by omega) _).mono ?_; rintro e w' ⟨rfl, rfl⟩))
            go_ret
            exact ⟨ret_int (by rw [HE.out]; rfl), rfl⟩
          · have y1 : hexZ (s[k + 1].toNat : Int) = true := by
              cases h : hexZ (s[k + 1].toNat : Int)
              · exact absurd ((hexW_neg _).2 h) x1
              · rfl
            have y2 : hexZ (s[k + 2].toNat : Int) = true := by
              cases h : hexZ (s[k + 2].toNat : Int)
              · exact absurd ((hexW_neg _).2 h) x2
              · rfl
            have HE : Hid (unitL (s.data.toList.drop k) = 3) := Lib.hid (by
              rw [HU.out, if_pos hu, if_pos (by simpa using HC.out), percent_at3 s k h3, y1, y2, if_pos (by simp)])
            clear HU HC y1 y2
            go_enter Tryd.func30, Tryd.ntmps30
            go_wp2_with (first | (go_at_call 44; refine (refUri_any _ _).mono ?_; rintro e w' ⟨rfl, rfl⟩) | (go_at_call 25; refine (refHex_any _ (by omega) _).mono ?_; rintro e w' ⟨rfl, rfl⟩))
            go_ret
            exact ⟨ret_int (by rw [HE.out]; rfl), rfl⟩
      · have HE : Hid (unitL (s.data.toList.drop k) = 0) := Lib.hid (by
          rw [HU.out, if_pos hu, if_pos (by simpa using HC.out), percent_short s k (by omega), if_neg (by simp)])
        have d3 : decide ((s.size : Int) - (k : Int) < 3) = true := by simp; omega
        clear HU HC
        go_enter Tryd.func30, Tryd.ntmps30
        go_wp2_with (go_at_call 44; refine (refUri_any _ _).mono ?_; rintro e w' ⟨rfl, rfl⟩)
        go_ret
        exact ⟨ret_int (by rw [HE.out]; rfl), rfl⟩
    · have HE : Hid (unitL (s.data.toList.drop k) = 1) := Lib.hid (by
        rw [HU.out, if_pos hu, if_neg (by simpa using h37)])
      clear HU
      go_enter Tryd.func30, Tryd.ntmps30
      go_wp2_with (go_at_call 44; refine (refUri_any _ _).mono ?_; rintro e w' ⟨rfl, rfl⟩)
      go_ret
      exact ⟨ret_int (by rw [HE.out]; rfl), rfl⟩

theorem refUnit_any (s : ByteArray) (k : Nat) (w : World) (hs : s.size ≤ 140737488355328) :
    Calls Tryd.prog 30 #[.string s, .int .i64 k] w fun e w' => e = .returned (.int .i64 (unitL (s.data.toList.drop k) : Nat)) ∧ w = w' := by
  by_cases hk : k < s.size
  · exact refUnit_in s k w hs hk
  · have HE : Hid (unitL (s.data.toList.drop k) = 0) := Lib.hid (by rw [List.drop_eq_nil_of_le (by simpa using hk)]; rfl)
    have d1 : decide (s.size ≤ k) = true := by simp; omega
    go_enter Tryd.func30, Tryd.ntmps30
    go_wp2
    go_ret
    exact ⟨ret_int (by rw [HE.out]; rfl), rfl⟩
end Go.Proofs.YtabdhfpohodohaaDoor
