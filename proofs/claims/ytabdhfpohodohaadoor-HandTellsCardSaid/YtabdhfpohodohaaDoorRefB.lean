/-
  bosketref1.handle, suffix, Size: Size computes what hand.Size does ('sizeZ').
-/
import Derived.Test.YtabdhfpohodohaaDoorRefA
namespace Go.Proofs.YtabdhfpohodohaaDoor
open Go.RowKit

theorem hex_uri_tab : ∀ n : Nat, n < 256 → hexZ (n : Int) = true → uriZ (n : Int) = true ∧ n ≠ 37 ∧ n ≠ 33 ∧ flowZ (n : Int) = false := by decide +kernel
theorem uris_hex {c : UInt8} (h : hexB c = true) (t : Bool) (r : Bs) : urisL t (c :: r) = urisL t r + 1 := by
  obtain ⟨h1, h2, h3, h4⟩ := hex_uri_tab _ c.toNat_lt h
  have e37 : c ≠ 37 := fun e => h2 (by rw [e]; rfl)
  have e33 : c ≠ 33 := fun e => h3 (by rw [e]; rfl)
  rw [urisL, if_pos]
  simp [uriB, h1, flowB, h4, e37, e33]
/-- one unit further. -/
theorem uris_unit (t : Bool) (l : Bs) :
    (unitL l = 0 → urisL t l = 0) ∧
    (0 < unitL l → t = true → (l[0]? = some 33 ∨ ∃ c, l[0]? = some c ∧ flowB c = true) → urisL t l = 0) ∧
    (0 < unitL l → (t = false ∨ ∃ c, l[0]? = some c ∧ c ≠ 33 ∧ flowB c = false) → unitL l ≤ l.length ∧ urisL t l = unitL l + urisL t (l.drop (unitL l))) := by
  cases l with
  | nil => simp [unitL, urisL]
  | cons c r =>
    refine ⟨fun h => ?_, fun _ ht h => ?_, fun h hc => ?_⟩
    · rw [urisL, if_neg]
      intro hc
      simp only [Bool.and_eq_true, Bool.or_eq_true, bne_iff_ne] at hc
      rw [unitL, if_pos hc.1.1] at h
      split at h
      · rename_i h37
        rcases hc.1.2 with h1 | h1
        · exact h1 h37
        · rw [if_pos h1] at h; cases h
      · cases h
    · rw [urisL, if_neg]
      intro hc
      simp only [Bool.and_eq_true, Bool.or_eq_true, bne_iff_ne, Bool.not_eq_true', Bool.and_eq_false_iff, Bool.or_eq_false_iff, beq_eq_false_iff_ne] at hc
      rcases hc.2 with h1 | h1
      · rw [ht] at h1; cases h1
      · rcases h with h | ⟨d, hd, hf⟩
        · exact h1.1 (by simpa using h)
        · have : c = d := by simpa using hd
          subst this
          rw [h1.2] at hf; cases hf
    · have hu : uriB c = true := by
        cases h1 : uriB c
        · rw [unitL, h1] at h; simp at h
        · rfl
      have ht : (!(t && (c == 33 || flowB c))) = true := by
        rcases hc with rfl | ⟨d, hd, h33, hf⟩
        · rfl
        · have : c = d := by simpa using hd
          subst this
          simp [h33, hf]
      by_cases h37 : c = 37
      · have hp : percentL (c :: r) = true := by
          cases h1 : percentL (c :: r)
          · rw [unitL, if_pos hu, if_pos h37, h1] at h; simp at h
          · rfl
        have e3 : unitL (c :: r) = 3 := by rw [unitL, if_pos hu, if_pos h37, if_pos hp]
        rw [e3]
        match r, hp with
        | a :: b :: r, hp =>
          have hp2 := hp
          simp only [percentL, Bool.and_eq_true] at hp2
          refine ⟨by simp, ?_⟩
          rw [urisL, if_pos (by simp only [Bool.and_eq_true]; exact ⟨⟨hu, by rw [hp]; simp⟩, ht⟩), uris_hex hp2.1, uris_hex hp2.2]
          show _ = 3 + urisL t r
          omega
      · have e1 : unitL (c :: r) = 1 := by rw [unitL, if_pos hu, if_neg h37]
        rw [e1]
        refine ⟨by simp, ?_⟩
        rw [urisL, if_pos (by simp only [Bool.and_eq_true]; exact ⟨⟨hu, by simp [h37]⟩, ht⟩)]
        show _ = 1 + urisL t r
        omega

/-- the same by places. -/
theorem drop_zero (s : ByteArray) (k : Nat) (h : k < s.size) : (s.data.toList.drop k)[0]? = some s[k] := by rw [drop_step s k h]; rfl
theorem unit_lt (s : ByteArray) (k : Nat) (h : 0 < unitL (s.data.toList.drop k)) : k < s.size := by
  rcases Nat.lt_or_ge k s.size with h1 | h1
  · exact h1
  · rw [List.drop_eq_nil_of_le (by simpa using h1)] at h
    simp [unitL] at h
theorem uris_stop (t : Bool) (s : ByteArray) (k : Nat) (h : unitL (s.data.toList.drop k) = 0) : urisL t (s.data.toList.drop k) = 0 := (uris_unit t _).1 h
theorem uris_bar (s : ByteArray) (k : Nat) (h : 0 < unitL (s.data.toList.drop k)) (hk : k < s.size) (hc : (s[k].toNat : Int) = 33 ∨ flowZ (s[k].toNat : Int) = true) : urisL true (s.data.toList.drop k) = 0 := by
  refine (uris_unit true _).2.1 h rfl ?_
  rw [drop_zero s k hk]
  rcases hc with hc | hc
  · exact .inl (by rw [Option.some_inj, ← UInt8.toNat_inj]; simp; omega)
  · exact .inr ⟨_, rfl, hc⟩
theorem uris_go (t : Bool) (s : ByteArray) (k : Nat) (h : 0 < unitL (s.data.toList.drop k)) (hk : k < s.size) (hc : t = false ∨ (¬ (s[k].toNat : Int) = 33 ∧ flowZ (s[k].toNat : Int) = false)) :
    k + unitL (s.data.toList.drop k) ≤ s.size ∧ urisL t (s.data.toList.drop k) = unitL (s.data.toList.drop k) + urisL t (s.data.toList.drop (k + unitL (s.data.toList.drop k))) := by
  have := (uris_unit t (s.data.toList.drop k)).2.2 h (by
    rcases hc with hc | ⟨h1, h2⟩
    · exact .inl hc
    · exact .inr ⟨_, drop_zero s k hk, fun e => h1 (by rw [e]; rfl), h2⟩)
  rw [List.drop_drop] at this
  refine ⟨?_, this.2⟩
  have h1 := this.1
  simp at h1
  omega

/-- a handle's bytes, or 1. -/
def handleN (l : Bs) : Nat := if 0 < handleL l then handleL l else 1
theorem at_some (s : ByteArray) (k : Nat) (h : k < s.size) : s.data.toList[k]? = some s[k] := List.getElem?_eq_getElem (l := s.data.toList) (by simpa using h)
theorem refHandle_no (s : ByteArray) (k n : Nat) (h : 1 + wordsL (s.data.toList.drop (k + 1)) = n) (hc : s.data.toList[k + n]? ≠ some 33) : handleL (s.data.toList.drop k) = 0 := by
  rw [handleL, List.drop_drop, h, List.getElem?_drop, if_neg hc]
theorem refHandle_yes (s : ByteArray) (k n : Nat) (h : 1 + wordsL (s.data.toList.drop (k + 1)) = n) (hc : s.data.toList[k + n]? = some 33) : handleL (s.data.toList.drop k) = n + 1 := by
  rw [handleL, List.drop_drop, h, List.getElem?_drop, if_pos hc]

theorem refUnit_z (s : ByteArray) (a : Int) (w : World) (ha : 0 ≤ a) (hs : s.size ≤ 140737488355328) :
    Calls Tryd.prog 30 #[.string s, .int .i64 a] w fun e w' => ∃ u : Nat, e = .returned (.int .i64 u) ∧ Hid (u = unitL (s.data.toList.drop a.toNat)) ∧ u ≤ 3 ∧ w = w' := by
  obtain ⟨k, rfl⟩ := Int.eq_ofNat_of_zero_le ha
  refine (refUnit_any s k w hs).mono fun e w' ⟨he, hw⟩ => ⟨_, he, Lib.hid (by rw [Int.toNat_natCast]), ?_, hw⟩
  cases s.data.toList.drop k with
  | nil => simp [unitL]
  | cons c r => unfold unitL; repeat' split
                all_goals omega

set_option maxHeartbeats 1000000 in
theorem refSuffix_any (s : ByteArray) (a : Int) (w : World) (ha : 0 ≤ a) (ha2 : a ≤ s.size) (hs : s.size ≤ 140737488355327) :
    Calls Tryd.prog 23 #[.string s, .int .i64 a] w fun e w' => ∃ n : Nat, e = .returned (.int .i64 n) ∧ Hid (n = urisL true (s.data.toList.drop a.toNat)) ∧ a + n ≤ s.size ∧ w = w' := by
  obtain ⟨k, rfl⟩ := Int.eq_ofNat_of_zero_le ha
  rw [Int.toNat_natCast]
  go_enter Tryd.func23, Tryd.ntmps23
  go_wp2
  go_loop [5, 6] (fun v _ => ∃ n : Nat, k + n ≤ s.size ∧ v = .int .i64 n ∧ Hid (urisL true (s.data.toList.drop k) = n + urisL true (s.data.toList.drop (k + n)))) (fun v _ => s.size - (intOf v).toNat)
  case atStart => exact ⟨0, by omega, rfl, Lib.hid (by simp)⟩
  case round =>
    obtain ⟨n, hn, rfl, HR⟩ := hrel
    by_cases hu : unitL (s.data.toList.drop (k + n)) = 0
    · have HU := Lib.hid hu
      clear hu
      go_wp2_with (go_at_call 30; refine (refUnit_z _ _ _ (by omega) (by omega)).mono ?_; rintro e w' ⟨u, rfl, Hu, hu3, rfl⟩; obtain rfl : u = 0 := (by rw [Hu.out, show ((k : Int) + (n : Int)).toNat = k + n from by omega]; exact HU.out))
      go_ret
      exact ⟨n, rfl, Lib.hid (by rw [HR.out, uris_stop true s (k + n) HU.out]; omega), by omega, rfl⟩
    · have hlt := unit_lt s (k + n) (by omega)
      have HU := Lib.hid hu
      have hi1 : ((k : Int) + (n : Int)).toNat = k + n := by omega
      clear hu
      go_wp2_with (first | (go_at_call 30; refine (refUnit_z _ _ _ (by omega) (by omega)).mono ?_; rintro e w' ⟨u, rfl, Hu, hu3, rfl⟩; have hu0 : ((u : Int) == 0) = false := (by have h1 := Hu.out; rw [show ((k : Int) + (n : Int)).toNat = k + n from by omega] at h1; have h2 := HU.out; rw [← h1] at h2; simp; omega)) | (go_at_call 37; refine (refFlow_any _ _).mono ?_; rintro e w' ⟨rfl, rfl⟩))
      · have h33 : (s[k + n].toNat : Int) = 33 := by assumption
        go_ret
        exact ⟨n, rfl, Lib.hid (by rw [HR.out, uris_bar s (k + n) (by have := HU.out; omega) hlt (.inl h33)]; omega), by omega, rfl⟩
      · have h33 : (((s[k + n].toNat : Int) == 33) = true ∨ flowZ (s[k + n].toNat : Int) = true) := by assumption
        go_ret
        exact ⟨n, rfl, Lib.hid (by rw [HR.out, uris_bar s (k + n) (by have := HU.out; omega) hlt (by simpa using h33)]; omega), by omega, rfl⟩
      · have h33 : (((s[k + n].toNat : Int) == 33) = false ∧ flowZ (s[k + n].toNat : Int) = false) := by assumption
        have hu1 := Hu.out
        rw [hi1] at hu1
        obtain ⟨g1, g2⟩ := uris_go true s (k + n) (by have := HU.out; omega) hlt (.inr (by simpa using h33))
        rw [← hu1] at g1 g2
        have hup : u ≠ 0 := by rw [hu1]; exact HU.out
        refine ⟨⟨n + u, by omega, by go_num, Lib.hid ?_⟩, by simp [intOf]; omega⟩
        rw [HR.out, g2, show k + (n + u) = k + n + u from by omega]
        omega

set_option maxHeartbeats 1000000 in
theorem refHandle_any (s : ByteArray) (k : Nat) (w : World) (hk : k < s.size) (hs : s.size ≤ 140737488355327) :
    Calls Tryd.prog 22 #[.string s, .int .i64 k] w fun e w' => ∃ n : Nat, e = .returned (.int .i64 n) ∧ Hid (n = handleN (s.data.toList.drop k)) ∧ 1 ≤ n ∧ k + n ≤ s.size ∧ w = w' := by
  go_enter Tryd.func22, Tryd.ntmps22
  go_wp2
  go_loop [5] (fun v => ∃ n : Nat, 1 ≤ n ∧ k + n ≤ s.size ∧ v = .int .i64 n ∧ Hid (1 + wordsL (s.data.toList.drop (k + 1)) = n + wordsL (s.data.toList.drop (k + n)))) (fun v => s.size - (intOf v).toNat)
  case atStart => exact ⟨1, by omega, by omega, rfl, Lib.hid rfl⟩
  case round =>
    obtain ⟨n, hn1, hn, rfl, HR⟩ := hrel
    by_cases hlt : k + n < s.size
    · cases hw : wordZ (s[k + n].toNat : Int)
      · have HW : Hid (1 + wordsL (s.data.toList.drop (k + 1)) = n) := Lib.hid (by rw [HR.out, words_step s (k + n) hlt, hw]; simp)
        cases h33 : ((s[k + n].toNat : Int) == 33)
        · have HE : Hid (handleL (s.data.toList.drop k) = 0) := Lib.hid (refHandle_no s k n HW.out (by rw [at_some s (k + n) hlt, Ne, Option.some_inj, ← UInt8.toNat_inj]; simp at h33 ⊢; omega))
          clear HR
          go_wp2_with (go_at_call 36; refine (refWord_any _ _).mono ?_; rintro e w' ⟨rfl, rfl⟩)
          go_ret
          exact ⟨1, rfl, Lib.hid (by rw [handleN, HE.out]; rfl), by omega, by omega, rfl⟩
        · have HE : Hid (handleL (s.data.toList.drop k) = n + 1) := Lib.hid (refHandle_yes s k n HW.out (by rw [at_some s (k + n) hlt, Option.some_inj, ← UInt8.toNat_inj]; simp at h33 ⊢; omega))
          clear HR
          go_wp2_with (go_at_call 36; refine (refWord_any _ _).mono ?_; rintro e w' ⟨rfl, rfl⟩)
          go_ret
          exact ⟨n + 1, by go_num, Lib.hid (by rw [handleN, HE.out, if_pos (by omega)]), by omega, by omega, rfl⟩
      · go_wp2_with (go_at_call 36; refine (refWord_any _ _).mono ?_; rintro e w' ⟨rfl, rfl⟩)
        refine ⟨⟨n + 1, by omega, by omega, by go_num, Lib.hid ?_⟩, by simp [intOf]; omega⟩
        rw [HR.out, words_step s (k + n) hlt, if_pos hw, Nat.add_assoc]
        omega
    · have HE : Hid (handleL (s.data.toList.drop k) = 0) := Lib.hid (by
        have h1 := HR.out
        rw [words_end s (k + n) (by omega)] at h1
        exact refHandle_no s k n h1 (by rw [List.getElem?_eq_none (by simp; omega)]; simp))
      go_wp2
      go_ret
      exact ⟨1, rfl, Lib.hid (by rw [handleN, HE.out]; rfl), by omega, by omega, rfl⟩
end Go.Proofs.YtabdhfpohodohaaDoor
