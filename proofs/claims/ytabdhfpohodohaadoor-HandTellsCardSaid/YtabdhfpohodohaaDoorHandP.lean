/-
  Plain laws on tags: what a text is whose size is all of it. No program is named here.
-/
import Derived.Test.YtabdhfpohodohaaDoorHandSpec
import Derived.Lib.LastIndexByte
import Derived.Lib.Strings
namespace Go.Proofs.YtabdhfpohodohaaDoor
open Go.RowKit

theorem uri_ascii_tab : ∀ n : Nat, n < 256 → uriZ (n : Int) = true → n < 128 := by decide +kernel
theorem uri_ascii {c : UInt8} (h : uriB c = true) : c.toNat < 128 := uri_ascii_tab _ c.toNat_lt h

theorem uris_all (t : Bool) (l : Bs) (h : urisL t l = l.length) : ∀ k (hk : k < l.length), uriB l[k] = true ∧ (l[k] = 37 → percentL (l.drop k) = true) ∧ (t = true → l[k] ≠ 33 ∧ flowB l[k] = false) := by
  induction l with
  | nil => intro k hk; simp at hk
  | cons c r ih =>
    rw [urisL] at h
    split at h
    · rename_i hc
      simp only [Bool.and_eq_true, Bool.or_eq_true, Bool.not_eq_true', Bool.and_eq_false_iff, Bool.or_eq_false_iff, bne_iff_ne, beq_eq_false_iff_ne] at hc
      have hr : urisL t r = r.length := by simp at h; omega
      intro k hk
      cases k with
      | zero =>
        refine ⟨hc.1.1, fun e => ?_, fun e => ?_⟩
        · rcases hc.1.2 with h1 | h1
          · exact absurd e h1
          · exact h1
        · rcases hc.2 with h1 | h1
          · rw [e] at h1; cases h1
          · exact h1
      | succ k => exact ih hr k (by simpa using hk)
    · simp at h

/-- THE SHAPE OF A TAG THAT IS NOT BETWEEN < AND >: its handle's end, behind which all are tight Uris. -/
theorem size_shape (l : Bs) (h : sizeL l = l.length) (h0 : l ≠ []) (hp : Lib.hasPrefix l [33, 60] = false) :
    ∃ k, 1 ≤ k ∧ k ≤ l.length ∧ l[k - 1]? = some 33 ∧ urisL true (l.drop k) = (l.drop k).length ∧
      ((0 < handleL l ∧ 0 < urisL true (l.drop (handleL l)) ∧ k = handleL l) ∨ (¬ (0 < handleL l ∧ 0 < urisL true (l.drop (handleL l))) ∧ k = 1)) := by
  cases l with
  | nil => exact absurd rfl h0
  | cons c r =>
    rw [sizeL] at h
    split at h
    · simp at h
    · rename_i hc
      have hc : c = 33 := by simpa using hc
      subst hc
      split at h
      · rename_i h1
        exfalso
        cases r with
        | nil => simp at h1
        | cons d r =>
          have hd : d = 60 := by simpa using h1.1
          subst hd
          simp [Lib.hasPrefix, List.isPrefixOf] at hp
      · split at h
        · rename_i h2
          have hle := handleL_le (33 :: r)
          have hk : (33 :: r)[handleL (33 :: r) - 1]? = some 33 := by
            have hpos := h2.1
            unfold handleL at hpos ⊢
            split
            · rename_i h3
              rw [Nat.add_sub_cancel]
              exact h3
            · rename_i h3
              rw [if_neg h3] at hpos
              omega
          refine ⟨handleL (33 :: r), h2.1, hle, hk, ?_, .inl ⟨h2.1, h2.2, rfl⟩⟩
          simp only [List.length_drop]
          omega
        · rename_i h2
          refine ⟨1, Nat.le_refl _, by simp, rfl, ?_, .inr ⟨h2, rfl⟩⟩
          simp only [List.length_drop]
          omega
end Go.Proofs.YtabdhfpohodohaaDoor
