/-
  bosketlaw9.HandWhole returns true, whatever the text.
-/
import Derived.Test.YtabdhfpohodohaaDoorLawA
import Derived.Test.YtabdhfpohodohaaDoorHandQ
namespace Go.Proofs.YtabdhfpohodohaaDoor
open Go.RowKit

theorem app_list (a b : ByteArray) : (a ++ b).data.toList = a.data.toList ++ b.data.toList := by
  rw [ByteArray.data_append, Array.toList_append]
theorem extract_head (s : ByteArray) (k : Nat) : (s.extract 0 k).data.toList = s.data.toList.take k := by
  rw [ByteArray.data_extract, Array.toList_extract]
  simp
theorem sizeZ_zero (s : ByteArray) : sizeZ s 0 = sizeL s.data.toList := by
  rw [sizeZ]
  split
  · rename_i h
    have h0 : s.data.toList.length = 0 := by
      rcases h with h | h
      · omega
      · have : (s.size : Int) ≤ 0 := h
        show s.size = 0
        omega
    rw [List.eq_nil_of_length_eq_zero h0]; rfl
  · rfl
theorem sizeZ_one (s : ByteArray) (h : 1 < s.size) : sizeZ s 1 = sizeL (s.data.toList.drop 1) := by
  rw [sizeZ, if_neg (by omega)]; rfl

/-- what the law asks of a text. -/
theorem whole_facts (s : ByteArray) : ∃ n : Nat, sizeZ (⟨#[33]⟩ ++ s) 0 = n ∧ 1 ≤ n ∧ n ≤ s.size + 1 ∧ sizeZ ((⟨#[33]⟩ ++ s).extract 0 n) 0 = n ∧ sizeZ ((⟨#[33]⟩ ++ s).extract 0 n ++ ⟨#[32, 120]⟩) 0 = n ∧
    sizeZ (⟨#[120]⟩ ++ (⟨#[33]⟩ ++ s).extract 0 n) 1 = n ∧ sizeZ (⟨#[120]⟩ ++ (⟨#[33]⟩ ++ s).extract 0 n) 0 = 0 := by
  have e : (⟨#[33]⟩ ++ s : ByteArray).data.toList = 33 :: s.data.toList := by rw [app_list]; rfl
  obtain ⟨h1, h2, h3⟩ := size_whole s.data.toList [] (.inl rfl)
  obtain ⟨_, _, h4⟩ := size_whole s.data.toList [32, 120] (.inr rfl)
  refine ⟨sizeL (33 :: s.data.toList), by rw [sizeZ_zero, e], h1, h2, ?_, ?_, ?_, ?_⟩
  · rw [sizeZ_zero, extract_head, e]; rw [List.append_nil] at h3; exact h3
  · rw [sizeZ_zero, app_list, extract_head, e]; exact h4
  · rw [sizeZ_one, app_list, extract_head, e]
    · rw [List.append_nil] at h3
      exact h3
    · have : (⟨#[120]⟩ ++ (⟨#[33]⟩ ++ s).extract 0 (sizeL (33 :: s.data.toList)) : ByteArray).size = 1 + min (sizeL (33 :: s.data.toList)) (1 + s.size) - 0 := by
        simp [ByteArray.size_append]; rfl
      rw [this]; omega
  · rw [sizeZ_zero, app_list, sizeL, if_pos]
    simp

set_option maxRecDepth 100000 in
set_option maxHeartbeats 1000000 in
theorem whole_any (s : ByteArray) (w : World) (hT : Hid (Lib.Utf8Tabs 3 4 w)) :
    Calls Tryd.prog 4 #[.string s] w fun e w' => e = .returned (.bool true) ∧ Below w.heap.size w w' := by
  by_cases hl : (60 : Int) < s.size
  · go_enter Tryd.func4, Tryd.ntmps4
    go_wp2_with (go_at_call 8; refine (awake_any _ hT).mono ?_; rintro e w' ⟨rfl, hb⟩)
    go_ret
    exact ⟨rfl, hb⟩
  · obtain ⟨n, a1, a2, a3, a4, a5, a6, a7⟩ := whole_facts s
    have A1 := Lib.hid a1
    have A4 := Lib.hid a4
    have A5 := Lib.hid a5
    have A6 := Lib.hid a6
    have A7 := Lib.hid a7
    clear a1 a4 a5 a6 a7
    have b1 : (⟨#[33]⟩ ++ s : ByteArray).size ≤ 140737488355328 := by rw [ByteArray.size_append]; show 1 + s.size ≤ _; omega
    have b2 : ((⟨#[33]⟩ ++ s : ByteArray).extract 0 n).size ≤ 1000 := by rw [ByteArray.size_extract]; omega
    have b3 : ((⟨#[33]⟩ ++ s : ByteArray).extract 0 n ++ ⟨#[32, 120]⟩).size ≤ 140737488355328 := by rw [ByteArray.size_append]; show _ + 2 ≤ _; omega
    have b4 : (⟨#[120]⟩ ++ (⟨#[33]⟩ ++ s : ByteArray).extract 0 n).size ≤ 140737488355328 := by rw [ByteArray.size_append]; show 1 + _ ≤ _; omega
    have B1 := Lib.hid b1
    have B2 := Lib.hid b2
    have B3 := Lib.hid b3
    have B4 := Lib.hid b4
    clear b1 b2 b3 b4
    go_enter Tryd.func4, Tryd.ntmps4
    go_wp2_with fail
    refine (size_at _ _ _ n A1.out B1.out).mono ?_
    rintro e w' ⟨rfl, rfl⟩
    go_wp2_with fail
    refine (size_at _ _ _ n A4.out (by have := B2.out; omega)).mono ?_
    rintro e w' ⟨rfl, rfl⟩
    go_wp2_with fail
    refine (size_at _ _ _ n A5.out B3.out).mono ?_
    rintro e w' ⟨rfl, rfl⟩
    go_wp2_with fail
    refine (size_at _ _ _ n A6.out B4.out).mono ?_
    rintro e w' ⟨rfl, rfl⟩
    go_wp2_with fail
    refine (size_at _ _ _ 0 A7.out B4.out).mono ?_
    rintro e w' ⟨rfl, rfl⟩
    go_wp2_with fail
    refine (awake_any _ hT).mono ?_
    rintro e w' ⟨rfl, hb⟩
    go_wp2_with fail
    go_ret
    exact ⟨rfl, hb⟩
end Go.Proofs.YtabdhfpohodohaaDoor
