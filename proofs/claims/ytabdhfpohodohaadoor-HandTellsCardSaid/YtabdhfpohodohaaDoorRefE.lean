/-
  bosketref1.Place computes what utfs.Place does; bosketref1.prefix what hand.prefix does.
-/
import Derived.Test.YtabdhfpohodohaaDoorRefD
import Derived.Lib.MapLaws
namespace Go.Proofs.YtabdhfpohodohaaDoor
open Go.RowKit

theorem decode_bad (s : ByteArray) (k : Nat) (h : (Utf8.decode s k).1 = 65533 ∧ (Utf8.decode s k).2 < 2) : oneS s k = (0, 0) := by unfold oneS; rw [if_pos h]
theorem decode_ok (s : ByteArray) (k : Nat) (h : ¬ ((Utf8.decode s k).1 = 65533 ∧ (Utf8.decode s k).2 < 2)) : (oneS s k).2 = ((Utf8.decode s k).2 : Int) := by unfold oneS; rw [if_neg h]
theorem place_step (s : ByteArray) (f k : Nat) (hk : k < s.size) : placeF s (f + 1) k = if (oneS s k).2 = 0 then (k : Int) else placeF s f (k + (oneS s k).2.toNat) := by
  have hw := Lib.decode_width_pos s k hk
  rw [placeF, if_pos hk]
  by_cases h : (Utf8.decode s k).1 = 65533 ∧ (Utf8.decode s k).2 < 2
  · rw [if_pos h, decode_bad s k h]; rfl
  · rw [if_neg h, decode_ok s k h, if_neg (by omega), Int.toNat_natCast]
theorem width_in (s : ByteArray) (k : Nat) (hk : k < s.size) : (Utf8.decode s k).2 ≤ s.size - k := by
  unfold Utf8.decode
  simp only
  repeat' split
  all_goals simp_all
  all_goals omega
theorem one_width (s : ByteArray) (k : Nat) (hk : k < s.size) : 0 ≤ (oneS s k).2 ∧ k + (oneS s k).2.toNat ≤ s.size := by
  have hl : (oneS s k).2.toNat ≤ s.size - k := by
    unfold oneS
    split
    · simp
    · show ((Utf8.decode s k).2 : Int).toNat ≤ _
      rw [Int.toNat_natCast]
      exact width_in s k hk
  refine ⟨?_, by omega⟩
  unfold oneS
  split
  · simp
  · simp

set_option maxHeartbeats 1000000 in
theorem refPlace_any (s : ByteArray) (w : World) (hs : s.size ≤ 140737488355327) :
    Calls Tryd.prog 26 #[.string s] w fun e w' => e = .returned (.int .i64 (placeS s)) ∧ w = w' := by
  go_enter Tryd.func26, Tryd.ntmps26
  go_wp2
  go_loop [3] (fun v => ∃ k f : Nat, k ≤ s.size ∧ s.size ≤ k + f ∧ v = .int .i64 k ∧ Hid (placeF s f k = placeS s)) (fun v => s.size - (intOf v).toNat)
  case atStart => exact ⟨0, s.size, Nat.zero_le _, by omega, rfl, Lib.hid rfl⟩
  case round =>
    obtain ⟨k, f, hk, hf, rfl, HR⟩ := hrel
    by_cases hlt : k < s.size
    · obtain ⟨f, rfl⟩ : ∃ g, f = g + 1 := ⟨f - 1, by omega⟩
      have HS : Hid (placeS s = if (oneS s k).2 = 0 then (k : Int) else placeF s f (k + (oneS s k).2.toNat)) := Lib.hid (by rw [← HR.out, place_step s f k hlt])
      obtain ⟨n0, n1⟩ := one_width s k hlt
      have HC := Lib.hid (one_any s k w hs hlt)
      clear HR
      generalize oneS s k = p at *
      obtain ⟨r, n⟩ := p
      dsimp only at HS n0 n1
      obtain ⟨m, rfl⟩ := Int.eq_ofNat_of_zero_le n0
      rw [Int.toNat_natCast] at HS n1
      by_cases hm : m = 0
      · subst hm
        go_wp2_with (go_at_call 39; refine HC.out.mono ?_; rintro e w' ⟨rfl, rfl⟩)
        go_ret
        exact ⟨ret_int (HS.out.trans (if_pos rfl)).symm, rfl⟩
      · have hm0 : ((m : Int) == 0) = false := by simp; omega
        go_wp2_with (go_at_call 39; refine HC.out.mono ?_; rintro e w' ⟨rfl, rfl⟩)
        refine ⟨⟨k + m, f, n1, by omega, by go_num, Lib.hid ?_⟩, by simp [intOf]; omega⟩
        rw [HS.out, if_neg (by omega)]
    · have HE : Hid (placeS s = -1) := Lib.hid (by
        rw [← HR.out]
        cases f with
        | zero => rfl
        | succ f => rw [placeF, if_neg hlt])
      go_wp2
      go_ret
      exact ⟨ret_int HE.out.symm, rfl⟩

theorem refLong_any (s : ByteArray) (w : World) (hs : s.size ≤ 140737488355328) :
    Calls Tryd.prog 38 #[.string s] w fun e w' => e = .returned (.string (⟨#[116, 97, 103, 58, 121, 97, 109, 108, 46, 111, 114, 103, 44, 50, 48, 48, 50, 58]⟩ ++ s)) ∧ w = w' := by
  go_enter Tryd.func38, Tryd.ntmps38
  go_wp2
  go_ret
  exact ⟨rfl, rfl⟩

theorem pre_take (d p : ByteArray) (h : p.size ≤ d.size) : preS d p = ((d.extract 0 p.size).toList == p.toList) := by
  rw [preS, ← Lib.hasPrefix_raw]
  simp [h]
theorem pre_short (d p : ByteArray) (h : ¬ p.size ≤ d.size) : preS d p = false := by
  rw [preS, ← Lib.hasPrefix_raw]
  simp [h]
theorem cut_take (d p : ByteArray) (h : preS d p = true) : d.extract p.size d.size = cutS d p := by
  apply ByteArray.ext
  apply Array.toList_inj.1
  rw [extract_to_end, cutS, mkS_list, Lib.trimPrefix, if_pos (show Lib.hasPrefix _ _ = true from h)]
  rfl

set_option maxRecDepth 100000 in
set_option maxHeartbeats 1000000 in
theorem refPrefix_any (A : Option Addr) (n c : Nat) (ss : List ByteArray) (h : ByteArray) (w : World) (hn : n ≤ 140737488355328) (hr : ReadsS w w.heap.size A n ss) (hsz : Hid (∀ d ∈ ss, d.size ≤ 140737488355328)) (hs : h.size ≤ 140737488355328) :
    Calls Tryd.prog 24 #[.slice A n c, .string h] w (RetSB (fun r b => Hid ((r, b) = prefS h ss) ∧ r.size ≤ 140737488355328) w) := by
  have hps : ((⟨#[37, 84, 65, 71, 32]⟩ ++ h) ++ ⟨#[32]⟩ : ByteArray).size = (patS h).size := rfl
  go_enter Tryd.func24, Tryd.ntmps24
  go_wp2
  go_loop [6, 7] (fun i _ => ∃ k : Nat, k ≤ n ∧ i = .int .i64 k ∧ Hid (prefS h ss = prefS h (ss.drop k))) (fun i _ => n - (intOf i).toNat)
  case atStart => exact ⟨0, Nat.zero_le _, rfl, Lib.hid rfl⟩
  case round =>
    obtain ⟨k, hk, rfl, HR⟩ := hrel
    by_cases hlt : k < n
    · obtain ⟨ad, d, rfl, _, Hd, hc⟩ := ReadsS.at_ hr hlt
      have hd : d.size ≤ 140737488355328 := hsz.out d (List.mem_of_getElem? Hd.out)
      go_wp2
      · have g1 : (patS h).size ≤ d.size := by assumption
        have g2 : ((d.extract 0 (patS h).size).toList == (⟨#[37, 84, 65, 71, 32]⟩ ++ h ++ ⟨#[32]⟩ : ByteArray).toList) = true := by assumption
        have g3 : preS d (patS h) = true := (pre_take d (patS h) g1).trans g2
        go_ret2
        refine RetSB.mk _ _ ⟨Lib.hid ?_, by simp; omega⟩
        rw [HR.out, prefS_step h ss k d Hd.out, if_pos g3, cut_take d _ g3]
      · have g1 : (patS h).size ≤ d.size := by assumption
        have g2 : ((d.extract 0 (patS h).size).toList == (⟨#[37, 84, 65, 71, 32]⟩ ++ h ++ ⟨#[32]⟩ : ByteArray).toList) = false := by assumption
        have g3 : preS d (patS h) = false := (pre_take d (patS h) g1).trans g2
        refine ⟨⟨k + 1, by omega, by go_num, Lib.hid ?_⟩, by simp [intOf]; omega⟩
        rw [HR.out, prefS_step h ss k d Hd.out, if_neg (by simp [g3])]
      · have g1 : ¬ (patS h).size ≤ d.size := by assumption
        have g3 : preS d (patS h) = false := pre_short d (patS h) g1
        refine ⟨⟨k + 1, by omega, by go_num, Lib.hid ?_⟩, by simp [intOf]; omega⟩
        rw [HR.out, prefS_step h ss k d Hd.out, if_neg (by simp [g3])]
    · have HE : Hid (prefS h ss = lone h) := Lib.hid (by rw [HR.out, List.drop_eq_nil_of_le (by rw [ReadsS.length hr]; omega)]; rfl)
      go_wp2_with (first | (go_at_call 38; refine (refLong_any _ _ (by decide)).mono ?_; rintro e w' ⟨rfl, rfl⟩))
      · have h1 : (h.toList == [33]) = true := by assumption
        go_ret2
        exact RetSB.mk _ _ ⟨Lib.hid (by rw [HE.out, lone, if_pos h1]), by decide⟩
      · have h1 : (h.toList == [33]) = false := by assumption
        have h2 : (h.toList == [33, 33]) = true := by assumption
        go_ret2
        exact RetSB.mk _ _ ⟨Lib.hid (by rw [HE.out, lone, if_neg (by simp [h1]), if_pos h2]; rfl), by decide⟩
      · have h1 : (h.toList == [33]) = false := by assumption
        have h2 : (h.toList == [33, 33]) = false := by assumption
        go_ret2
        exact RetSB.mk _ _ ⟨Lib.hid (by rw [HE.out, lone, if_neg (by simp [h1]), if_neg (by simp [h2])]), by decide⟩
end Go.Proofs.YtabdhfpohodohaaDoor
