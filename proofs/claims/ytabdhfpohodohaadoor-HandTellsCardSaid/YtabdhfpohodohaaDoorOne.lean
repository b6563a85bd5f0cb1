/-
  Plain laws: the model's own decoder, read as the document's 'One' (oneS). No program is named here.
-/
import Derived.Test.YtabdhfpohodohaaDoorHandSpec
import Derived.Laws.RangeAny
import Derived.Lib.DecodeN
namespace Go.Proofs.YtabdhfpohodohaaDoor
open Go.RowKit

/-- the code point at a place, how many bytes it takes; of none: 0, 0. -/
def oneS (s : ByteArray) (k : Nat) : Int × Int := if (Utf8.decode s k).1 = 65533 ∧ (Utf8.decode s k).2 < 2 then (0, 0) else (((Utf8.decode s k).1 : Int), ((Utf8.decode s k).2 : Int))

theorem get_bang (s : ByteArray) (k : Nat) (h : k < s.size) : s.get! k = s[k] := by
  cases s with
  | mk d => exact getElem!_pos d k h

theorem one_ascii (s : ByteArray) (k : Nat) (h : k < s.size) (ha : s[k].toNat < 128) : oneS s k = ((s[k].toNat : Int), 1) := by
  unfold oneS
  rw [decode_ascii s k h ha, if_neg (by omega)]
  rfl
theorem one_bad {s : ByteArray} {k : Nat} (h : Utf8.decode s k = (Utf8.runeError, 1)) : oneS s k = (0, 0) := by
  unfold oneS
  rw [h, if_pos (by exact ⟨rfl, by decide⟩)]
theorem one_good {s : ByteArray} {k r n : Nat} (h : Utf8.decode s k = (r, n)) (hn : 2 ≤ n) : oneS s k = ((r : Int), (n : Int)) := by
  unfold oneS
  rw [h, if_neg (by simp; omega)]
theorem dec_out (s : ByteArray) (k : Nat) (h : k < s.size) (ha : 128 ≤ s[k].toNat) (hb : s[k].toNat < 194 ∨ 245 ≤ s[k].toNat) : Utf8.decode s k = (Utf8.runeError, 1) := by
  have hlt := s[k].toNat_lt
  unfold Utf8.decode
  simp only [Nat.add_zero, get_bang s k h]
  generalize s[k].toNat = b0 at *
  rw [if_neg (by omega)]
  by_cases h6 : b0 / 32 = 6
  · have hb0 : b0 < 194 := by omega
    have e14 : (b0 / 16 == 14) = false := by simp; omega
    have e30 : (b0 / 8 == 30) = false := by simp; omega
    split
    · rw [if_neg (by have : (s.get! (k + 1)).toNat % 64 < 64 := Nat.mod_lt _ (by decide); omega)]
    · simp [e14, e30]
  · have e6 : (b0 / 32 == 6) = false := by simp; omega
    have e14 : (b0 / 16 == 14) = false := by simp; omega
    by_cases h8 : b0 / 8 = 30
    · have h4 : 5 ≤ b0 % 8 := by omega
      rw [if_neg (by simp [e6]), if_neg (by simp [e14])]
      split
      · rw [if_neg]
        simp [Utf8.valid]; omega
      · rfl
    · have e30 : (b0 / 8 == 30) = false := by simp; omega
      rw [if_neg (by simp [e6]), if_neg (by simp [e14]), if_neg (by simp [e30])]
theorem one_out (s : ByteArray) (k : Nat) (h : k < s.size) (ha : 128 ≤ s[k].toNat) (hb : s[k].toNat < 194 ∨ 245 ≤ s[k].toNat) : oneS s k = (0, 0) := one_bad (dec_out s k h ha hb)

theorem one_short (s : ByteArray) (k n : Nat) (h : k < s.size) (hs : s.size < k + n) (hn : (n = 2 ∧ 194 ≤ s[k].toNat ∧ s[k].toNat < 224) ∨ (n = 3 ∧ 224 ≤ s[k].toNat ∧ s[k].toNat < 240) ∨ (n = 4 ∧ 240 ≤ s[k].toNat ∧ s[k].toNat < 245)) : oneS s k = (0, 0) := by
  apply one_bad
  unfold Utf8.decode
  simp only [Nat.add_zero, get_bang s k h]
  generalize s[k].toNat = b0 at *
  rw [if_neg (by omega)]
  rcases hn with ⟨rfl, h1, h2⟩ | ⟨rfl, h1, h2⟩ | ⟨rfl, h1, h2⟩
  · have e1 : decide (k + 1 < s.size) = false := by simp; omega
    simp [e1]
  · have e6 : (b0 / 32 == 6) = false := by simp; omega
    have e1 : decide (k + 2 < s.size) = false := by simp; omega
    have e30 : (b0 / 8 == 30) = false := by simp; omega
    simp [e6, e1, e30]
  · have e6 : (b0 / 32 == 6) = false := by simp; omega
    have e14 : (b0 / 16 == 14) = false := by simp; omega
    have e1 : decide (k + 3 < s.size) = false := by simp; omega
    simp [e6, e1, e14]

theorem one_two (s : ByteArray) (k : Nat) (h : k + 1 < s.size) (h1 : 194 ≤ s[k].toNat) (h2 : s[k].toNat < 224) :
    oneS s k = if s[k + 1].toNat / 64 = 2 then (((s[k].toNat % 32 * 64 + s[k + 1].toNat % 64 : Nat) : Int), 2) else (0, 0) := by
  have g0 := get_bang s k (by omega)
  have g1 := get_bang s (k + 1) h
  have e14 : (s[k].toNat / 16 == 14) = false := by simp; omega
  have e30 : (s[k].toNat / 8 == 30) = false := by simp; omega
  have e1 : decide (k + 1 < s.size) = true := by simp; omega
  split
  · rename_i hc
    refine one_good (n := 2) ?_ (Nat.le_refl _)
    unfold Utf8.decode
    simp only [Nat.add_zero, g0, g1, e1]
    rw [if_neg (by omega), if_pos (by simp [hc]; omega), if_pos (by omega)]
  · rename_i hc
    refine one_bad ?_
    unfold Utf8.decode
    simp only [Nat.add_zero, g0, g1, e1]
    rw [if_neg (by omega), if_neg (by simp [hc]), if_neg (by simp [e14]), if_neg (by simp [e30])]
theorem one_three (s : ByteArray) (k : Nat) (h : k + 2 < s.size) (h1 : 224 ≤ s[k].toNat) (h2 : s[k].toNat < 240) :
    oneS s k = if s[k + 1].toNat / 64 = 2 ∧ s[k + 2].toNat / 64 = 2 ∧ 2048 ≤ (s[k].toNat % 16 * 64 + s[k + 1].toNat % 64) * 64 + s[k + 2].toNat % 64 ∧ ¬ (55296 ≤ (s[k].toNat % 16 * 64 + s[k + 1].toNat % 64) * 64 + s[k + 2].toNat % 64 ∧ (s[k].toNat % 16 * 64 + s[k + 1].toNat % 64) * 64 + s[k + 2].toNat % 64 ≤ 57343)
      then ((((s[k].toNat % 16 * 64 + s[k + 1].toNat % 64) * 64 + s[k + 2].toNat % 64 : Nat) : Int), 3) else (0, 0) := by
  have g0 := get_bang s k (by omega)
  have g1 := get_bang s (k + 1) (by omega)
  have g2 := get_bang s (k + 2) h
  have e6 : (s[k].toNat / 32 == 6) = false := by simp; omega
  have e14 : (s[k].toNat / 16 == 14) = true := by simp; omega
  have e30 : (s[k].toNat / 8 == 30) = false := by simp; omega
  have e1 : decide (k + 1 < s.size) = true := by simp; omega
  have e2 : decide (k + 2 < s.size) = true := by simp; omega
  have hb : s[k].toNat % 16 < 16 := Nat.mod_lt _ (by decide)
  split
  · rename_i hc
    refine one_good (n := 3) ?_ (by decide)
    unfold Utf8.decode
    simp only [Nat.add_zero, g0, g1, g2, e1, e2]
    rw [if_neg (by omega), if_neg (by simp [e6]), if_pos (by simp [e14, hc.1, hc.2.1]), if_pos (by simp [Utf8.valid]; omega)]
    congr 1
    omega
  · rename_i hc
    refine one_bad ?_
    unfold Utf8.decode
    simp only [Nat.add_zero, g0, g1, g2, e1, e2]
    rw [if_neg (by omega), if_neg (by simp [e6])]
    split
    · rename_i h3
      simp [e14] at h3
      rw [if_neg]
      simp [Utf8.valid]
      intro h4
      have h5 := fun h5 => hc ⟨h3.1, h3.2, h5⟩
      omega
    · rw [if_neg (by simp [e30])]
theorem one_four (s : ByteArray) (k : Nat) (h : k + 3 < s.size) (h1 : 240 ≤ s[k].toNat) (h2 : s[k].toNat < 245) :
    oneS s k = if s[k + 1].toNat / 64 = 2 ∧ s[k + 2].toNat / 64 = 2 ∧ s[k + 3].toNat / 64 = 2 ∧ 65536 ≤ ((s[k].toNat % 8 * 64 + s[k + 1].toNat % 64) * 64 + s[k + 2].toNat % 64) * 64 + s[k + 3].toNat % 64 ∧ ((s[k].toNat % 8 * 64 + s[k + 1].toNat % 64) * 64 + s[k + 2].toNat % 64) * 64 + s[k + 3].toNat % 64 ≤ 1114111
      then (((((s[k].toNat % 8 * 64 + s[k + 1].toNat % 64) * 64 + s[k + 2].toNat % 64) * 64 + s[k + 3].toNat % 64 : Nat) : Int), 4) else (0, 0) := by
  have g0 := get_bang s k (by omega)
  have g1 := get_bang s (k + 1) (by omega)
  have g2 := get_bang s (k + 2) (by omega)
  have g3 := get_bang s (k + 3) h
  have e6 : (s[k].toNat / 32 == 6) = false := by simp; omega
  have e14 : (s[k].toNat / 16 == 14) = false := by simp; omega
  have e30 : (s[k].toNat / 8 == 30) = true := by simp; omega
  have e1 : decide (k + 1 < s.size) = true := by simp; omega
  have e2 : decide (k + 2 < s.size) = true := by simp; omega
  have e3 : decide (k + 3 < s.size) = true := by simp; omega
  split
  · rename_i hc
    refine one_good (n := 4) ?_ (by decide)
    unfold Utf8.decode
    simp only [Nat.add_zero, g0, g1, g2, g3, e1, e2, e3]
    rw [if_neg (by omega), if_neg (by simp [e6]), if_neg (by simp [e14]), if_pos (by simp [e30, hc.1, hc.2.1, hc.2.2.1]), if_pos (by simp [Utf8.valid]; omega)]
    congr 1
    omega
  · rename_i hc
    refine one_bad ?_
    unfold Utf8.decode
    simp only [Nat.add_zero, g0, g1, g2, g3, e1, e2, e3]
    rw [if_neg (by omega), if_neg (by simp [e6]), if_neg (by simp [e14])]
    split
    · rename_i h3
      simp [e30] at h3
      rw [if_neg]
      simp [Utf8.valid]
      intro h4
      have h5 : ¬ ((s[k].toNat % 8 * 64 + s[k + 1].toNat % 64) * 64 + s[k + 2].toNat % 64) * 64 + s[k + 3].toNat % 64 ≤ 1114111 := fun h5 => hc ⟨h3.1.1, h3.1.2, h3.2, by omega, h5⟩
      omega
    · rfl
end Go.Proofs.YtabdhfpohodohaaDoor
