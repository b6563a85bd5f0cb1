/-
  hand.Size: what it computes ('sizeZ').
-/
import Derived.Test.YtabdhfpohodohaaDoorSmall
import Derived.Test.YtabdhfpohodohaaDoorShelf
import Derived.Lib.Strings
namespace Go.Proofs.YtabdhfpohodohaaDoor
open Go.RowKit

/-- a list as Go's string. -/
def mkS (l : Bs) : ByteArray := ⟨l.toArray⟩
theorem mkS_list (l : Bs) : (mkS l).data.toList = l := rfl
theorem mkS_size (l : Bs) : (mkS l).size = l.length := rfl
/-- a string without a known prefix. -/
def cutS (s p : ByteArray) : ByteArray := mkS (Lib.trimPrefix s.data.toList p.data.toList)
def preS (s p : ByteArray) : Bool := Lib.hasPrefix s.data.toList p.data.toList
theorem cutS_le (s p : ByteArray) : (cutS s p).size ≤ s.size := by
  unfold cutS
  rw [mkS_size, Lib.trimPrefix]
  split
  · simp
  · simp
theorem cutPrefix_any (s p : ByteArray) (w : World) :
    Calls Tryd.prog 17 #[.string s, .string p] w fun e w' => ∃ (r : ByteArray) (b : Bool), e = .returned (.tuple #[.string r, .bool b]) ∧ Hid (r = cutS s p ∧ b = preS s p) ∧ r.size ≤ s.size ∧ w = w' :=
  (Tryd.strings_CutPrefix s p w).mono fun _ _ ⟨he, hw⟩ => ⟨cutS s p, preS s p, he, ⟨rfl, rfl⟩, cutS_le s p, hw.symm⟩
theorem hasPrefix_any (s p : ByteArray) (w : World) :
    Calls Tryd.prog 28 #[.string s, .string p] w fun e w' => e = .returned (.bool (preS s p)) ∧ w = w' :=
  (Tryd.strings_HasPrefix s p w).mono fun _ _ ⟨he, hw⟩ => ⟨he, hw.symm⟩

def sizeZ (s : ByteArray) (at_ : Int) : Nat := if at_ < 0 ∨ (s.size : Int) ≤ at_ then 0 else sizeL (s.data.toList.drop at_.toNat)

theorem beq_swap (a b : UInt8) : (a == b) = (b == a) := by
  rw [Bool.eq_iff_iff, beq_iff_eq, beq_iff_eq]; exact ⟨Eq.symm, Eq.symm⟩
theorem pre2 (c a b : UInt8) (r : Bs) : Lib.hasPrefix (c :: r) [a, b] = (a == c && (r[0]? == some b)) := by
  cases r with
  | nil => simp [Lib.hasPrefix, List.isPrefixOf]
  | cons d r => simp [Lib.hasPrefix, List.isPrefixOf, beq_swap d b]
theorem pre1 (r : Bs) (k : Nat) (b : UInt8) : Lib.hasPrefix (r.drop k) [b] = (r[k]? == some b) := by
  rw [← List.head?_drop]
  cases r.drop k with
  | nil => rfl
  | cons d r => simp [Lib.hasPrefix, List.isPrefixOf, beq_swap d b]

theorem sizeL_le (l : Bs) : sizeL l ≤ l.length := by
  unfold sizeL
  split
  · omega
  · rename_i h
    have h1 : 1 ≤ l.length := by
      cases l with
      | nil => simp at h
      | cons c r => simp
    split
    · rename_i h2
      have := (List.getElem?_eq_some_iff.1 h2.2.2).1
      omega
    · split
      · have := handleL_le l
        have := urisL_le true (l.drop (handleL l))
        simp only [List.length_drop] at this
        omega
      · have := urisL_le true (l.drop 1)
        simp only [List.length_drop] at this
        omega
theorem sizeZ_le (s : ByteArray) (k : Nat) : sizeZ s k ≤ s.size - k := by
  unfold sizeZ
  split
  · omega
  · have := sizeL_le (s.data.toList.drop k)
    simpa using this
theorem size_fin (s : ByteArray) (k n : Nat) (w : World) (h : n = sizeZ s k) : Hid (n = sizeZ s k) ∧ n ≤ s.size - k ∧ w = w :=
  ⟨Lib.hid h, h ▸ sizeZ_le s k, rfl⟩

theorem sizeZ_in (s : ByteArray) (k : Nat) (hk : k < s.size) (h33 : ((s[k].toNat : Int) != 33) = false) : sizeZ s k =
    if preS (s.extract k s.size) ⟨#[33, 60]⟩ = true ∧ 0 < urisS false (cutS (s.extract k s.size) ⟨#[33, 60]⟩) ∧
        preS ((cutS (s.extract k s.size) ⟨#[33, 60]⟩).extract (urisS false (cutS (s.extract k s.size) ⟨#[33, 60]⟩)) (cutS (s.extract k s.size) ⟨#[33, 60]⟩).size) ⟨#[62]⟩ = true then
      urisS false (cutS (s.extract k s.size) ⟨#[33, 60]⟩) + 3
    else if 0 < handleS (s.extract k s.size) ∧ 0 < urisS true ((s.extract k s.size).extract (handleS (s.extract k s.size)) (s.size - k)) then
      handleS (s.extract k s.size) + urisS true ((s.extract k s.size).extract (handleS (s.extract k s.size)) (s.size - k))
    else 1 + urisS true ((s.extract k s.size).extract 1 (s.size - k)) := by
  have e : s.size - k = (s.extract k s.size).size := by simp
  rw [e]
  have hU : (s.extract k s.size).data.toList = s.data.toList.drop k := extract_to_end s k
  have hd := drop_step s k hk
  have hc : s[k] = 33 := by
    rw [← UInt8.toNat_inj]; simp at h33; simp; omega
  rw [hc] at hd
  simp only [urisS, handleS, extract_to_end, preS, cutS, mkS_list, hU]
  unfold sizeZ
  rw [if_neg (by omega), Int.toNat_natCast, sizeL, if_neg (by rw [hd]; simp), hd]
  generalize s.data.toList.drop (k + 1) = r
  rw [pre2]
  by_cases h60 : r[0]? = some 60
  · have ht : Lib.trimPrefix (33 :: r) [33, 60] = r.drop 1 := by
      rw [Lib.trimPrefix, pre2, h60]; rfl
    rw [ht, pre1]
    simp only [h60, List.getElem?_cons_succ, List.drop_succ_cons, Bool.and_eq_true, beq_iff_eq, true_and, List.getElem?_drop, BEq.rfl]
    rw [show (2 + urisL false (List.drop 1 r)) = (1 + urisL false (List.drop 1 r)) + 1 from by omega, List.getElem?_cons_succ]
  · rw [if_neg (by simpa using fun h => absurd h h60)]
    conv => rhs; rw [if_neg (by simpa using fun h => absurd h h60)]

set_option maxHeartbeats 1000000 in
theorem size_in (s : ByteArray) (k : Nat) (w : World) (hs : s.size ≤ 140737488355328) (hk : k < s.size) (h33 : ((s[k].toNat : Int) != 33) = false) :
    Calls Tryd.prog 12 #[.string s, .int .i64 k] w fun e w' => ∃ n : Nat, e = .returned (.int .i64 n) ∧ Hid (n = sizeZ s k) ∧ n ≤ s.size - k ∧ w = w' := by
  have d0 : decide ((k : Int) < 0) = false := by simp
  have d1 : decide (s.size ≤ k) = false := by simp; omega
  go_enter Tryd.func12, Tryd.ntmps12
  go_wp2_with (first | (go_at_call 17; refine (cutPrefix_any _ _ _).mono ?_; rintro e w' ⟨r, b, rfl, Hrb, hr, rfl⟩; (try simp only [ByteArray.size_extract] at hr)) | (go_at_call 28; refine (hasPrefix_any _ _ _).mono ?_; rintro e w' ⟨rfl, rfl⟩) | (go_at_call 27; refine (uris_any _ _ _ (by first | omega | (simp; omega))).mono ?_; rintro e w' ⟨n, rfl, Hn, hn, rfl⟩; (try simp only [ByteArray.size_extract] at hn)) | (go_at_call 29; refine (handle_any _ _ (by first | omega | (simp; omega))).mono ?_; rintro e w' ⟨h, rfl, Hh, hh, rfl⟩; (try simp only [ByteArray.size_extract] at hh)))
  all_goals go_ret
  all_goals refine ⟨_, by go_num, size_fin s k _ w ?_⟩
  all_goals go_light
  all_goals simp only [Hid] at *
  all_goals rw [sizeZ_in s k hk h33]
  all_goals simp_all

theorem size_any (s : ByteArray) (at_ : Int) (w : World) (hs : s.size ≤ 140737488355328) :
    Calls Tryd.prog 12 #[.string s, .int .i64 at_] w fun e w' => ∃ n : Nat, e = .returned (.int .i64 n) ∧ Hid (n = sizeZ s at_) ∧ n ≤ s.size - at_.toNat ∧ w = w' := by
  by_cases h0 : at_ < 0
  · have hz : Hid (sizeZ s at_ = 0) := Lib.hid <| by unfold sizeZ; rw [if_pos (.inl h0)]
    go_enter Tryd.func12, Tryd.ntmps12
    go_wp2
    go_ret
    exact ⟨0, rfl, Lib.hid hz.out.symm, by omega, rfl⟩
  · obtain ⟨k, rfl⟩ := Int.eq_ofNat_of_zero_le (by omega : 0 ≤ at_)
    by_cases hk : k < s.size
    · cases h33 : ((s[k].toNat : Int) != 33)
      · exact size_in s k w hs hk h33
      · have hz : Hid (sizeZ s k = 0) := Lib.hid <| by
          unfold sizeZ
          rw [if_neg (by omega), Int.toNat_natCast, sizeL, drop_step s k hk, if_pos]
          simp at h33 ⊢
          intro h
          rw [h] at h33
          exact h33 rfl
        have d0 : decide ((k : Int) < 0) = false := by simp
        have d1 : decide (s.size ≤ k) = false := by simp; omega
        go_enter Tryd.func12, Tryd.ntmps12
        go_wp2
        go_ret
        exact ⟨0, rfl, Lib.hid hz.out.symm, by omega, rfl⟩
    · have hz : Hid (sizeZ s k = 0) := Lib.hid <| by unfold sizeZ; rw [if_pos (.inr (by omega))]
      have d0 : decide ((k : Int) < 0) = false := by simp
      have d1 : decide (s.size ≤ k) = true := by simp; omega
      go_enter Tryd.func12, Tryd.ntmps12
      go_wp2
      go_ret
      exact ⟨0, rfl, Lib.hid hz.out.symm, by omega, rfl⟩
end Go.Proofs.YtabdhfpohodohaaDoor
