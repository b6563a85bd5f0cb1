/-
  The first place of a text in a text, reckoned by numbers. No program is named here.
-/
import Derived.Test.YtplgalgoplmkfaaGreatDoorEvY
import Derived.Lib.Index
set_option linter.unusedVariables false
set_option linter.unusedSimpArgs false
set_option linter.unnecessarySimpa false
set_option linter.all false
namespace Go.Proofs.YtplgalgoplmkfaaGreatDoor.Ev
open Go Go.RowKit

def preL : List Nat → List Nat → Bool
  | [], _ => true
  | _ :: _, [] => false
  | a :: p, b :: l => Nat.beq a b && preL p l
def idxS (p : List Nat) : List Nat → Nat → Int
  | [], k => if preL p [] then .ofNat k else .negSucc 0
  | b :: l, k => if preL p (b :: l) then .ofNat k else idxS p l (Nat.add k 1)
def idxV (n v m u : Nat) : AV := forceI (idxS (decL m u) (decL n v) 0) fun i => .i .i64 i
theorem preL_map : ∀ (p l : List UInt8), preL (p.map UInt8.toNat) (l.map UInt8.toNat) = p.isPrefixOf l
  | [], l => by cases l <;> rfl
  | a :: p, [] => rfl
  | a :: p, b :: l => by
    have e : Nat.beq a.toNat b.toNat = (a == b) := by rw [Bool.eq_iff_iff, Nat.beq_eq, beq_iff_eq]; exact UInt8.toNat_inj
    simp only [List.map_cons, preL, List.isPrefixOf, preL_map p l, e]
theorem idxS_map (p : List UInt8) : ∀ (l : List UInt8) (k : Nat), idxS (p.map UInt8.toNat) (l.map UInt8.toNat) k = if Lib.index l p = -1 then -1 else Lib.index l p + k
  | [], k => by
    have := preL_map p []
    simp only [List.map_nil] at this
    simp only [List.map_nil, idxS, this, Lib.index]
    cases p with
    | nil => simp
    | cons a r => simp [List.isPrefixOf]
  | b :: l, k => by
    have h1 := preL_map p (b :: l)
    simp only [List.map_cons] at h1
    by_cases hp : p.isPrefixOf (b :: l) = true
    · have e : Lib.index (b :: l) p = 0 := by unfold Lib.index; rw [if_pos hp]
      rw [e]
      simp only [List.map_cons, idxS, h1, hp, if_true]
      simp
    · have hp' : p.isPrefixOf (b :: l) = false := Bool.eq_false_iff.mpr hp
      have ih := idxS_map p l (Nat.add k 1)
      have hge := Lib.index_ge l p
      by_cases hm : Lib.index l p = -1
      · have e : Lib.index (b :: l) p = -1 := by unfold Lib.index; rw [if_neg hp, if_pos (by simpa using hm)]
        rw [e]
        simp only [List.map_cons, idxS, h1, hp', ih, hm]
        simp
      · have e : Lib.index (b :: l) p = Lib.index l p + 1 := by
          have : ¬ (Lib.index l p == -1) = true := by simpa using hm
          conv => lhs; unfold Lib.index
          rw [if_neg hp, if_neg this]
        rw [e]
        simp only [List.map_cons, idxS, h1, hp', ih, if_neg hm, Bool.false_eq_true, if_false]
        rw [if_neg (by omega)]
        show Lib.index l p + ((k + 1 : Nat) : Int) = _
        omega
theorem idxV_eq (s sub : ByteArray) : idxV s.size (encL s.data.toList) sub.size (encL sub.data.toList) = .i .i64 (Lib.index s.data.toList sub.data.toList) := by
  unfold idxV
  rw [forceI_eq]
  have e1 : s.size = s.data.toList.length := by simp
  have e2 : sub.size = sub.data.toList.length := by simp
  rw [e1, e2, decL_enc, decL_enc, idxS_map]
  congr 1
  split
  · rename_i h; exact h.symm
  · simp
/-- a cell of a block is the block's. -/
theorem cell_of_held {w W : World} {g : Nat} {o : Obj} (h : W.heap[g]? = some o) (h' : w.heap[g]? = some o) (off : Nat) : w.cell? ⟨g, off, none⟩ = W.cell? ⟨g, off, none⟩ := by
  simp only [World.cell?, h, h']
/-- what some variables hold, held. -/
def Mu.with (f : Nat → Value) (gs : List Nat) (W : World) : Mu := ⟨f, fun b o => b ∈ gs ∧ W.heap[b]? = some o⟩
theorem Held.with {f : Nat → Value} {gs : List Nat} {W : World} : Held (.with f gs W) W := fun b o h => h.2
theorem Held.cell {f : Nat → Value} {gs : List Nat} {W w : World} (h : Held (.with f gs W) w) {g : Nat} (hg : g ∈ gs) {v : Value} {off : Nat} (hv : W.cell? ⟨g, off, none⟩ = some v) : w.cell? ⟨g, off, none⟩ = some v := by
  have : ∃ o, W.heap[g]? = some o := by
    cases hh : W.heap[g]? with
    | none => simp [World.cell?, hh] at hv
    | some o => exact ⟨o, rfl⟩
  obtain ⟨o, ho⟩ := this
  rw [cell_of_held ho (h g o ⟨hg, ho⟩)]; exact hv
end Go.Proofs.YtplgalgoplmkfaaGreatDoor.Ev
