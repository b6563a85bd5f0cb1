/-
  hand.Full: what it computes ('fullS').
-/
import Derived.Test.YtabdhfpohodohaaDoorHandF
import Derived.Lib.LastIndexByte
import Derived.Test.YtabdhfpohodohaaDoorHandP
namespace Go.Proofs.YtabdhfpohodohaaDoor
open Go.RowKit

def trimS (s p : ByteArray) : ByteArray := mkS (Lib.trimSuffix s.data.toList p.data.toList)
/-- the last handle's end. -/
def cutI (tag : ByteArray) : Nat := (Lib.lastIndexByte tag 33 + 1).toNat
def fullS (ss : List ByteArray) (tag : ByteArray) : ByteArray × Int :=
  if tag.size = 0 ∨ sizeZ tag 0 ≠ tag.size then (⟨#[]⟩, 8)
  else if tag.toList == [33] then (tag, 0)
  else if preS tag ⟨#[33, 60]⟩ = true then (trimS (cutS tag ⟨#[33, 60]⟩) ⟨#[62]⟩, 0)
  else if (prefS (tag.extract 0 (cutI tag)) ss).2 = true ∧ placeS (toldS (tag.extract (cutI tag) tag.size)) < 0 then
    ((prefS (tag.extract 0 (cutI tag)) ss).1 ++ toldS (tag.extract (cutI tag) tag.size), 0)
  else (⟨#[]⟩, 8)

theorem lastIndex_any (s : ByteArray) (c : Int) (w : World) (hs : s.size < 4611686018427387904) :
    Calls Tryd.prog 19 #[.string s, .int .u8 c] w fun e w' => e = .returned (.int .i64 (Lib.lastIndexByte s c)) ∧ w = w' :=
  (Tryd.strings_LastIndexByte s c hs w).mono fun _ _ ⟨he, hw⟩ => ⟨he, hw.symm⟩
theorem trimSuffix_any (s p : ByteArray) (w : World) (hs : s.size ≤ 9223372036854775807) :
    Calls Tryd.prog 18 #[.string s, .string p] w fun e w' => e = .returned (.string (trimS s p)) ∧ w = w' :=
  (Tryd.strings_TrimSuffix s p w hs).mono fun _ _ ⟨he, hw⟩ => ⟨he, hw.symm⟩
theorem ret_si {v : ByteArray × Int} {r : ByteArray} {k : Int} (h : v = (r, k)) : Ending.returned (.tuple #[.string r, .int .i64 k]) = Ending.returned (.tuple #[.string v.1, .int .i64 v.2]) := by rw [h]

theorem bang_at (s : ByteArray) (j : Nat) (hj : j < s.size) : s.data[j]! = s[j] := by
  cases s with
  | mk d => exact getElem!_pos d j hj
theorem last_at (s : ByteArray) (k : Nat) (h1 : 1 ≤ k) (h2 : k ≤ s.size) (hc : s.data.toList[k - 1]? = some 33) (hn : ∀ j (hj : j < s.size), k ≤ j → s[j] ≠ 33) : Lib.lastIndexByte s 33 = (k : Int) - 1 := by
  have hk : s[k - 1]'(by omega) = 33 := by
    have : s.data.toList[k - 1]? = some (s[k - 1]'(by omega)) := List.getElem?_eq_getElem (l := s.data.toList) (by simp; omega)
    rw [this] at hc
    exact Option.some.inj hc
  rcases Lib.lastIndexByte_spec s 33 with ⟨_, h⟩ | ⟨i, hi, e, hci, h⟩
  · have := h (k - 1) (by omega)
    rw [bang_at s _ (by omega), hk] at this
    exact absurd rfl this
  · rw [e]
    rw [bang_at s i hi] at hci
    have hi33 : s[i] = 33 := by rw [← UInt8.toNat_inj]; simp; omega
    have ha : ¬ k ≤ i := fun hle => hn i hi hle hi33
    have hb : ¬ i < k - 1 := fun hlt => by
      have := h (k - 1) hlt (by omega)
      rw [bang_at s _ (by omega), hk] at this
      exact absurd rfl this
    omega
theorem flat_idx (s : ByteArray) (k j : Nat) (h : j < (s.extract k s.size).size) : ∃ h2 : k + j < s.size, (s.extract k s.size)[j] = s[k + j] := by
  have h2 : k + j < s.size := by simp at h; omega
  refine ⟨h2, ?_⟩
  have e1 : (s.extract k s.size).data.toList[j]? = some ((s.extract k s.size)[j]) := List.getElem?_eq_getElem (l := (s.extract k s.size).data.toList) (by simpa using h)
  have e2 : s.data.toList[k + j]? = some s[k + j] := List.getElem?_eq_getElem (l := s.data.toList) (by simpa using h2)
  rw [extract_to_end, List.getElem?_drop, e2] at e1
  exact (Option.some.inj e1).symm
theorem full_shape (tag : ByteArray) (h0 : ¬ tag.size = 0) (h1 : sizeZ tag 0 = tag.size) (h3 : preS tag ⟨#[33, 60]⟩ = false) :
    Lib.lastIndexByte tag 33 = (cutI tag : Int) - 1 ∧ cutI tag ≤ tag.size ∧ OkA (tag.extract (cutI tag) tag.size) ∧ OkP (tag.extract (cutI tag) tag.size) ∧ 1 ≤ cutI tag ∧
      ((0 < handleL tag.data.toList ∧ 0 < urisL true (tag.data.toList.drop (handleL tag.data.toList)) ∧ cutI tag = handleL tag.data.toList) ∨ (¬ (0 < handleL tag.data.toList ∧ 0 < urisL true (tag.data.toList.drop (handleL tag.data.toList))) ∧ cutI tag = 1)) := by
  have hl : tag.data.toList.length = tag.size := rfl
  have hL : sizeL tag.data.toList = tag.data.toList.length := by
    rw [sizeZ, if_neg (by omega)] at h1
    exact h1
  obtain ⟨k, hk1, hk2, hc, hu, hkind⟩ := size_shape tag.data.toList hL (by intro e; rw [e] at hl; simp at hl; omega) h3
  have hall := uris_all true _ hu
  have hat : ∀ j (hj : j < tag.size) (hkj : k ≤ j), (tag.data.toList.drop k)[j - k]? = some tag[j] := by
    intro j hj hkj
    rw [List.getElem?_drop, show k + (j - k) = j from by omega]
    exact List.getElem?_eq_getElem (l := tag.data.toList) (by simpa using hj)
  have hget : ∀ j (hj : j < tag.size) (hkj : k ≤ j), uriB tag[j] = true ∧ (tag[j] = 37 → percentL (tag.data.toList.drop j) = true) ∧ tag[j] ≠ 33 := by
    intro j hj hkj
    obtain ⟨hlt, e⟩ := List.getElem?_eq_some_iff.1 (hat j hj hkj)
    have := hall (j - k) hlt
    rw [e, List.drop_drop, show k + (j - k) = j from by omega] at this
    exact ⟨this.1, this.2.1, (this.2.2 rfl).1⟩
  have hlast := last_at tag k hk1 (by omega) hc (fun j hj hkj => (hget j hj hkj).2.2)
  have hcut : cutI tag = k := by rw [cutI, hlast]; omega
  rw [hcut]
  refine ⟨hlast, by omega, fun j hj => ?_, fun j hj h37 => ?_, hk1, hkind⟩
  · obtain ⟨h2, e⟩ := flat_idx tag k j hj
    rw [e]
    exact uri_ascii (hget _ h2 (by omega)).1
  · obtain ⟨h2, e⟩ := flat_idx tag k j hj
    rw [e] at h37
    have hp := (hget _ h2 (by omega)).2.1 (by rw [← UInt8.toNat_inj]; simpa using h37)
    rw [← extract_to_end] at hp
    have hs3 : 3 ≤ (tag.extract (k + j) tag.size).size := by
      rcases Nat.lt_or_ge (tag.extract (k + j) tag.size).size 3 with h | h
      · rw [percentL_short _ h] at hp; cases hp
      · exact h
    rw [percentL_at _ hs3] at hp
    simp only [Bool.and_eq_true] at hp
    have hj2 : j + 2 < (tag.extract k tag.size).size := by simp at hs3 ⊢; omega
    refine ⟨hj2, ?_, ?_⟩
    · obtain ⟨q, e1⟩ := flat_idx tag k (j + 1) (by omega)
      obtain ⟨q', e2⟩ := flat_idx tag (k + j) 1 (by omega)
      rw [e1]
      rw [e2] at hp
      exact hp.1
    · obtain ⟨q, e1⟩ := flat_idx tag k (j + 2) (by omega)
      obtain ⟨q', e2⟩ := flat_idx tag (k + j) 2 (by omega)
      rw [e1]
      rw [e2] at hp
      exact hp.2

theorem toList_nil {s : ByteArray} (h : s.size = 0) : s.toList = [] := by
  rw [Lib.toList_data]
  exact List.eq_nil_of_length_eq_zero (by simpa using h)
theorem toList_cons {s : ByteArray} (h : ¬ s.size = 0) : s.toList.isEmpty = false := by
  rw [Lib.toList_data]
  cases e : s.data.toList with
  | nil =>
    have h0 : s.data.toList.length = 0 := by rw [e]; rfl
    exact absurd (show s.size = 0 from h0) h
  | cons => rfl

set_option maxRecDepth 100000 in
set_option maxHeartbeats 1000000 in
theorem full_any (A : Option Addr) (n c : Nat) (ss : List ByteArray) (tag : ByteArray) (w : World) (hN : n ≤ 140737488355328) (hR : ReadsS w w.heap.size A n ss) (hsz : Hid (∀ d ∈ ss, d.size ≤ 140737488355328)) (hs : tag.size ≤ 140737488355327)
    (hT : Hid (Lib.Utf8Tabs 3 4 w)) :
    Calls Tryd.prog 10 #[.slice A n c, .string tag] w fun e w' => e = .returned (.tuple #[.string (fullS ss tag).1, .int .i64 (fullS ss tag).2]) ∧ Below w.heap.size w w' := by
  by_cases h0 : tag.size = 0
  · have he : tag.toList = [] := toList_nil h0
    have he2 : tag.toList.isEmpty = true := by rw [he]; rfl
    have HF : Hid (fullS ss tag = (⟨#[]⟩, 8)) := Lib.hid (by rw [fullS, if_pos (.inl h0)])
    clear h0
    go_enter Tryd.func10, Tryd.ntmps10
    go_wp2
    go_ret2
    exact ⟨ret_si HF.out, Below.refl _ _⟩
  · have he : tag.toList.isEmpty = false := toList_cons h0
    have hne : ¬ tag.toList = [] := by
      intro h
      rw [h] at he
      cases he
    by_cases h1 : sizeZ tag 0 = tag.size
    · have H1 := Lib.hid h1
      clear h1
      cases h2 : (tag.toList == [33])
      · cases h3 : preS tag ⟨#[33, 60]⟩
        · have HF : Hid (fullS ss tag = if (prefS (tag.extract 0 (cutI tag)) ss).2 = true ∧ placeS (toldS (tag.extract (cutI tag) tag.size)) < 0 then
              ((prefS (tag.extract 0 (cutI tag)) ss).1 ++ toldS (tag.extract (cutI tag) tag.size), 0) else (⟨#[]⟩, 8)) := Lib.hid (by
            rw [fullS, if_neg (by simp [h0, H1.out]), if_neg (by simp [h2]), if_neg (by simp [h3])])
          have HX : Hid (Lib.lastIndexByte tag 33 = (cutI tag : Int) - 1 ∧ cutI tag ≤ tag.size ∧ OkA (tag.extract (cutI tag) tag.size) ∧ OkP (tag.extract (cutI tag) tag.size)) := Lib.hid (let x := full_shape tag h0 H1.out h3; ⟨x.1, x.2.1, x.2.2.1, x.2.2.2.1⟩)
          have hts := toldS_le (tag.extract (cutI tag) tag.size) (n := 140737488355328) (by simp; omega)
          have hcut := HX.out.2.1
          have hcut1 : 0 ≤ (cutI tag : Int) := by omega
          go_enter Tryd.func10, Tryd.ntmps10
          go_wp2_with (first
            | (go_at_call 12; refine (size_any _ _ _ (by omega)).mono ?_; rintro e w' ⟨n, rfl, Hn, hn, rfl⟩; obtain rfl : n = tag.size := Hn.out.trans H1.out)
            | (go_at_call 17; refine (cutPrefix_any _ _ _).mono ?_; rintro e w' ⟨r, b, rfl, Hrb, hr, rfl⟩; obtain rfl : b = false := Hrb.out.2.trans h3)
            | (go_at_call 19; refine (lastIndex_any _ _ _ (by omega)).mono ?_; rintro e w' ⟨rfl, rfl⟩; rw [HX.out.1])
            | (go_at_call 20; refine (prefix_any _ _ _ _ _ _ hN hR hsz (by simp; omega)).mono ?_; rintro e w' ⟨r2, b2, rfl, ⟨Hrb2, hr2⟩, rfl⟩)
            | (go_at_call 21; refine (told_any _ _ (by simp; omega) (Lib.hid HX.out.2.2.1) (Lib.hid HX.out.2.2.2) hT).mono ?_; rintro e w' ⟨rfl, hb⟩))
          · have ho : (!decide (placeS (toldS (tag.extract (cutI tag) tag.size)) < 0)) = true := by assumption
            go_ret2
            exact ⟨ret_si (by rw [HF.out, if_neg (fun h => by simp [h.2] at ho)]), hb⟩
          · have ho : (!decide (placeS (toldS (tag.extract (cutI tag) tag.size)) < 0)) = false := by assumption
            have hb2 : b2 = true := by assumption
            go_ret2
            exact ⟨ret_si (by rw [HF.out, if_pos ⟨by rw [← Hrb2.out]; exact hb2, by simpa using ho⟩, ← Hrb2.out]), hb⟩
          · have hb2 : ¬ b2 = true := by assumption
            go_ret2
            exact ⟨ret_si (by rw [HF.out, if_neg (fun h => by rw [← Hrb2.out] at h; exact hb2 h.1)]), hb⟩
        · have HF : Hid (fullS ss tag = (trimS (cutS tag ⟨#[33, 60]⟩) ⟨#[62]⟩, 0)) := Lib.hid (by
            rw [fullS, if_neg (by simp [h0, H1.out]), if_neg (by simp [h2]), if_pos h3])
          go_enter Tryd.func10, Tryd.ntmps10
          go_wp2_with (first
            | (go_at_call 12; refine (size_any _ _ _ (by omega)).mono ?_; rintro e w' ⟨n, rfl, Hn, hn, rfl⟩; obtain rfl : n = tag.size := Hn.out.trans H1.out)
            | (go_at_call 17; refine (cutPrefix_any _ _ _).mono ?_; rintro e w' ⟨r, b, rfl, Hrb, hr, rfl⟩; obtain rfl : b = true := Hrb.out.2.trans h3)
            | (go_at_call 18; refine (trimSuffix_any _ _ _ (by omega)).mono ?_; rintro e w' ⟨rfl, rfl⟩))
          go_ret2
          exact ⟨ret_si (by rw [HF.out, ← Hrb.out.1]), Below.refl _ _⟩
      · have HF : Hid (fullS ss tag = (tag, 0)) := Lib.hid (by
          rw [fullS, if_neg (by simp [h0, H1.out]), if_pos h2])
        go_enter Tryd.func10, Tryd.ntmps10
        go_wp2_with (go_at_call 12; refine (size_any _ _ _ (by omega)).mono ?_; rintro e w' ⟨n, rfl, Hn, hn, rfl⟩; obtain rfl : n = tag.size := Hn.out.trans H1.out)
        go_ret2
        exact ⟨ret_si HF.out, Below.refl _ _⟩
    · have HF : Hid (fullS ss tag = (⟨#[]⟩, 8)) := Lib.hid (by rw [fullS, if_pos (.inr h1)])
      have H1 := Lib.hid h1
      clear h1
      go_enter Tryd.func10, Tryd.ntmps10
      go_wp2_with (go_at_call 12; refine (size_any _ _ _ (by omega)).mono ?_; rintro e w' ⟨n, rfl, Hn, hn, rfl⟩; have hnn : ((n : Int) != (tag.size : Int)) = true := (by rw [bne_iff_ne]; intro h; exact H1.out (by rw [← Hn.out]; omega)))
      go_ret2
      exact ⟨ret_si HF.out, Below.refl _ _⟩
end Go.Proofs.YtabdhfpohodohaaDoor
