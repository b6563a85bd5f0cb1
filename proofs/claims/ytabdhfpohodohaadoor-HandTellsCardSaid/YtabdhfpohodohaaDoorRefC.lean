/-
  bosketref1.Size computes what hand.Size does ('sizeZ').
-/
import Derived.Test.YtabdhfpohodohaaDoorRefB
namespace Go.Proofs.YtabdhfpohodohaaDoor
open Go.RowKit

/-- between < and >, or not. -/
theorem size_lt (l : Bs) (h0 : l.head? = some 33) (h1 : l[1]? = some 60) : sizeL l = if 0 < urisL false (l.drop 2) ∧ l[2 + urisL false (l.drop 2)]? = some 62 then urisL false (l.drop 2) + 3 else 1 := by
  rw [sizeL, if_neg (by simp [h0])]
  by_cases h : 0 < urisL false (l.drop 2) ∧ l[2 + urisL false (l.drop 2)]? = some 62
  · rw [if_pos ⟨h1, h⟩, if_pos h]
  · rw [if_neg (fun x => h x.2), if_neg h]
    match l, h1 with
    | c :: d :: r, h1 =>
      have hd : d = 60 := by simpa using h1
      subst hd
      have e1 : wordsL (60 :: r) = 0 := by rw [wordsL, if_neg (by decide)]
      have e2 : handleL (c :: 60 :: r) = 0 := by
        rw [handleL]
        show (if (c :: 60 :: r)[1 + wordsL (60 :: r)]? = some 33 then _ else _) = _
        rw [e1, if_neg (by simp)]
      have e3 : urisL true (60 :: r) = 0 := by rw [urisL, if_neg]; simp only [Bool.and_eq_true]; intro h; exact absurd h.1.1 (by decide)
      rw [if_neg (by rw [e2]; simp)]
      show 1 + urisL true (60 :: r) = 1
      rw [e3]
theorem size_other (l : Bs) (h0 : l.head? = some 33) (h1 : l[1]? ≠ some 60) : sizeL l = if 0 < urisL true (l.drop (handleN l)) then handleN l + urisL true (l.drop (handleN l)) else if 0 < urisL true (l.drop 1) then 1 + urisL true (l.drop 1) else 1 := by
  rw [sizeL, if_neg (by simp [h0]), if_neg (fun h => h1 h.1), handleN]
  by_cases hh : 0 < handleL l
  · rw [if_pos hh]
    by_cases hu : 0 < urisL true (l.drop (handleL l))
    · rw [if_pos ⟨hh, hu⟩, if_pos hu]
    · rw [if_neg (fun h => hu h.2), if_neg hu]
      split <;> omega
  · rw [if_neg hh, if_neg (fun h => hh h.1)]
    split <;> omega

def SizeIs (s : ByteArray) (k n : Nat) : Prop := n = sizeZ s k
theorem sizeZ_drop (s : ByteArray) (k : Nat) (hk : k < s.size) : sizeZ s k = sizeL (s.data.toList.drop k) := by
  rw [sizeZ, if_neg (by omega), Int.toNat_natCast]
theorem head_drop (s : ByteArray) (k : Nat) (hk : k < s.size) (h33 : ((s[k].toNat : Int) != 33) = false) : (s.data.toList.drop k).head? = some 33 := by
  rw [List.head?_drop, at_some s k hk, Option.some_inj, ← UInt8.toNat_inj]
  simp at h33 ⊢; omega

set_option maxHeartbeats 1000000 in
theorem refSize_lt (s : ByteArray) (k : Nat) (w : World) (hs : s.size ≤ 140737488355327) (hk : k + 1 < s.size) (h33 : ((s[k].toNat : Int) != 33) = false) (h60 : (s[k + 1].toNat : Int) = 60) :
    Calls Tryd.prog 13 #[.string s, .int .i64 k] w fun e w' => ∃ n : Nat, e = .returned (.int .i64 n) ∧ Hid (n = sizeZ s k) ∧ w = w' := by
  have HZ : Hid (sizeZ s k = if 0 < urisL false (s.data.toList.drop (k + 2)) ∧ s.data.toList[k + 2 + urisL false (s.data.toList.drop (k + 2))]? = some 62 then urisL false (s.data.toList.drop (k + 2)) + 3 else 1) := Lib.hid (by
    rw [sizeZ_drop s k (by omega), size_lt _ (head_drop s k (by omega) h33) (by rw [List.getElem?_drop, at_some s (k + 1) hk, Option.some_inj, ← UInt8.toNat_inj]; simp; omega), List.drop_drop, List.getElem?_drop]
    simp only [Nat.add_assoc])
  have d0 : decide ((k : Int) < 0) = false := by simp
  have d1 : decide (s.size ≤ k) = false := by simp; omega
  have h60' : ((s[k + 1].toNat : Int) == 60) = true := by rw [h60]; rfl
  clear h60
  go_enter Tryd.func13, Tryd.ntmps13
  go_wp2
  go_loop [5] (fun v => ∃ n : Nat, 2 ≤ n ∧ k + n ≤ s.size ∧ v = .int .i64 n ∧ Hid (urisL false (s.data.toList.drop (k + 2)) + 2 = n + urisL false (s.data.toList.drop (k + n)))) (fun v => s.size - (intOf v).toNat)
  case atStart => exact ⟨2, by omega, by omega, rfl, Lib.hid (by omega)⟩
  case round =>
    obtain ⟨n, hn2, hn, rfl, HR⟩ := hrel
    have hi1 : ((k : Int) + (n : Int)).toNat = k + n := by omega
    by_cases hu : unitL (s.data.toList.drop (k + n)) = 0
    · have HU : Hid (urisL false (s.data.toList.drop (k + 2)) + 2 = n) := Lib.hid (by rw [HR.out, uris_stop false s (k + n) hu]; omega)
      have HN := Lib.hid hu
      clear hu HR
      go_wp2_with (go_at_call 30; refine (refUnit_z _ _ _ (by omega) (by omega)).mono ?_; rintro e w' ⟨u, rfl, Hu, hu3, rfl⟩; obtain rfl : u = 0 := (by rw [Hu.out, show ((k : Int) + (n : Int)).toNat = k + n from by omega]; exact HN.out))
      · have h62 : ((s[k + n].toNat : Int) == 62) = true := by assumption
        have hlt : k + n < s.size := by omega
        go_ret
        refine ⟨n + 1, by go_num, Lib.hid ?_, rfl⟩
        have hU := HU.out
        have hc : s.data.toList[k + 2 + urisL false (List.drop (k + 2) s.data.toList)]? = some 62 := by
          rw [show k + 2 + urisL false (List.drop (k + 2) s.data.toList) = k + n from by omega, at_some s (k + n) hlt, Option.some_inj, ← UInt8.toNat_inj]
          have h62' : (s[k + n].toNat : Int) = 62 := by simpa using h62
          show s[k + n].toNat = 62
          omega
        rw [HZ.out, if_pos ⟨by omega, hc⟩]
        omega
      · have h62 : ((s[k + n].toNat : Int) == 62) = false := by assumption
        have hlt : k + n < s.size := by omega
        go_ret
        refine ⟨1, rfl, Lib.hid ?_, rfl⟩
        have hU := HU.out
        rw [HZ.out, if_neg]
        rintro ⟨_, hc⟩
        rw [show k + 2 + urisL false (List.drop (k + 2) s.data.toList) = k + n from by omega, at_some s (k + n) hlt, Option.some_inj, ← UInt8.toNat_inj] at hc
        rw [hc] at h62
        exact absurd h62 (by decide)
      · go_ret
        refine ⟨1, rfl, Lib.hid ?_, rfl⟩
        have hU := HU.out
        rw [HZ.out, if_neg]
        rintro ⟨_, hc⟩
        rw [show k + 2 + urisL false (List.drop (k + 2) s.data.toList) = k + n from by omega, List.getElem?_eq_none (by simp; omega)] at hc
        cases hc
      · go_ret
        refine ⟨1, rfl, Lib.hid ?_, rfl⟩
        have hU := HU.out
        rw [HZ.out, if_neg]
        rintro ⟨hc, _⟩
        omega
    · have hlt := unit_lt s (k + n) (by omega)
      obtain ⟨g1, g2⟩ := uris_go false s (k + n) (by omega) hlt (.inl rfl)
      obtain ⟨u0, hu0⟩ : ∃ u0, u0 = unitL (s.data.toList.drop (k + n)) := ⟨_, rfl⟩
      rw [← hu0] at g1 g2 hu
      have G2 := Lib.hid g2
      have HU0 := Lib.hid hu0
      have hup : 0 < u0 := by omega
      clear g2 hu0 hu
      go_wp2_with (go_at_call 30; refine (refUnit_z _ _ _ (by omega) (by omega)).mono ?_; rintro e w' ⟨u, rfl, Hu, hu3, rfl⟩; obtain rfl : u0 = u := (by rw [Hu.out, show ((k : Int) + (n : Int)).toNat = k + n from by omega]; exact HU0.out))
      refine ⟨⟨n + u0, by omega, by omega, by go_num, Lib.hid ?_⟩, by simp [intOf]; omega⟩
      rw [HR.out, G2.out, show k + (n + u0) = k + n + u0 from by omega]
      omega

set_option maxHeartbeats 1000000 in
theorem refSize_other (s : ByteArray) (k : Nat) (w : World) (hs : s.size ≤ 140737488355327) (hk : k < s.size) (h33 : ((s[k].toNat : Int) != 33) = false) (h60 : Hid (s.data.toList[k + 1]? ≠ some 60)) :
    Calls Tryd.prog 13 #[.string s, .int .i64 k] w fun e w' => ∃ n : Nat, e = .returned (.int .i64 n) ∧ Hid (n = sizeZ s k) ∧ w = w' := by
  have HZ : Hid (sizeZ s k = if 0 < urisL true (s.data.toList.drop (k + handleN (s.data.toList.drop k))) then handleN (s.data.toList.drop k) + urisL true (s.data.toList.drop (k + handleN (s.data.toList.drop k)))
      else if 0 < urisL true (s.data.toList.drop (k + 1)) then 1 + urisL true (s.data.toList.drop (k + 1)) else 1) := Lib.hid (by
    rw [sizeZ_drop s k hk, size_other _ (head_drop s k hk h33) (by rw [List.getElem?_drop]; exact h60.out), List.drop_drop, List.drop_drop])
  have d0 : decide ((k : Int) < 0) = false := by simp
  have d1 : decide (s.size ≤ k) = false := by simp; omega
  by_cases hk1 : k + 1 < s.size
  · have h60' : ((s[k + 1].toNat : Int) == 60) = false := by
      have := h60.out
      rw [at_some s (k + 1) hk1, Ne, Option.some_inj, ← UInt8.toNat_inj] at this
      simp at this ⊢; omega
    go_enter Tryd.func13, Tryd.ntmps13
    go_wp2_with (first | (go_at_call 22; refine (refHandle_any _ _ _ hk hs).mono ?_; rintro e w' ⟨h, rfl, Hh, hh1, hh2, rfl⟩) | (go_at_call 23; refine (refSuffix_any _ _ _ (by omega) (by omega) hs).mono ?_; rintro e w' ⟨n, rfl, Hn, hn, rfl⟩))
    all_goals have i2 : ((k : Int) + 1).toNat = k + 1 := by omega
    all_goals go_ret
    all_goals refine ⟨_, by go_num, Lib.hid ?_, rfl⟩
    all_goals go_light
    all_goals have i1 : ((k : Int) + (h : Int)).toNat = k + h := by omega
    all_goals simp only [Hid, i1, i2] at *
    all_goals rw [HZ]
    all_goals simp_all
  · have d2 : decide (s.size ≤ k + 1) = true := by simp; omega
    go_enter Tryd.func13, Tryd.ntmps13
    go_wp2_with (first | (go_at_call 22; refine (refHandle_any _ _ _ hk hs).mono ?_; rintro e w' ⟨h, rfl, Hh, hh1, hh2, rfl⟩) | (go_at_call 23; refine (refSuffix_any _ _ _ (by omega) (by omega) hs).mono ?_; rintro e w' ⟨n, rfl, Hn, hn, rfl⟩))
    all_goals have i2 : ((k : Int) + 1).toNat = k + 1 := by omega
    all_goals go_ret
    all_goals refine ⟨_, by go_num, Lib.hid ?_, rfl⟩
    all_goals go_light
    all_goals have i1 : ((k : Int) + (h : Int)).toNat = k + h := by omega
    all_goals simp only [Hid, i1, i2] at *
    all_goals rw [HZ]
    all_goals simp_all

theorem refSize_any (s : ByteArray) (at_ : Int) (w : World) (hs : s.size ≤ 140737488355327) :
    Calls Tryd.prog 13 #[.string s, .int .i64 at_] w fun e w' => ∃ n : Nat, e = .returned (.int .i64 n) ∧ Hid (n = sizeZ s at_) ∧ w = w' := by
  by_cases h0 : at_ < 0
  · have hz : Hid (sizeZ s at_ = 0) := Lib.hid <| by unfold sizeZ; rw [if_pos (.inl h0)]
    go_enter Tryd.func13, Tryd.ntmps13
    go_wp2
    go_ret
    exact ⟨0, rfl, Lib.hid hz.out.symm, rfl⟩
  · obtain ⟨k, rfl⟩ := Int.eq_ofNat_of_zero_le (by omega : 0 ≤ at_)
    by_cases hk : k < s.size
    · cases h33 : ((s[k].toNat : Int) != 33)
      · by_cases h60 : s.data.toList[k + 1]? = some 60
        · obtain ⟨hk1, e⟩ := List.getElem?_eq_some_iff.1 h60
          have hk1' : k + 1 < s.size := by simpa using hk1
          exact refSize_lt s k w hs hk1' h33 (by
            rw [at_some s (k + 1) hk1', Option.some_inj] at h60
            rw [h60]; rfl)
        · exact refSize_other s k w hs hk h33 (Lib.hid h60)
      · have hz : Hid (sizeZ s k = 0) := Lib.hid <| by
          unfold sizeZ
          rw [if_neg (by omega), Int.toNat_natCast, sizeL, drop_step s k hk, if_pos]
          simp at h33 ⊢
          intro h
          rw [h] at h33
          exact h33 rfl
        have d0 : decide ((k : Int) < 0) = false := by simp
        have d1 : decide (s.size ≤ k) = false := by simp; omega
        go_enter Tryd.func13, Tryd.ntmps13
        go_wp2
        go_ret
        exact ⟨0, rfl, Lib.hid hz.out.symm, rfl⟩
    · have hz : Hid (sizeZ s k = 0) := Lib.hid <| by unfold sizeZ; rw [if_pos (.inr (by omega))]
      have d0 : decide ((k : Int) < 0) = false := by simp
      have d1 : decide (s.size ≤ k) = true := by simp; omega
      go_enter Tryd.func13, Tryd.ntmps13
      go_wp2
      go_ret
      exact ⟨0, rfl, Lib.hid hz.out.symm, rfl⟩
end Go.Proofs.YtabdhfpohodohaaDoor
