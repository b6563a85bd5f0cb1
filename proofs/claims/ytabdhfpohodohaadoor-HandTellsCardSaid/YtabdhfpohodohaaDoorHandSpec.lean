/-
  The plain functions (on bytes, on lists of bytes) that the functions of sign and hand compute. No program is named here.
-/
import Derived.Below
import Derived.Lib.Hide
namespace Go.Proofs.YtabdhfpohodohaaDoor
open Go.RowKit

abbrev Bs := List UInt8

/-- hex digits. -/
def hexZ (c : Int) : Bool := (decide (48 ≤ c) && decide (c ≤ 57)) || (decide (97 ≤ c) && decide (c ≤ 102)) || (decide (65 ≤ c) && decide (c ≤ 70))
def flowZ (c : Int) : Bool := c == 44 || c == 91 || c == 93 || c == 123 || c == 125
def wordZ (c : Int) : Bool := (decide (97 ≤ c) && decide (c ≤ 122)) || (decide (65 ≤ c) && decide (c ≤ 90)) || (decide (48 ≤ c) && decide (c ≤ 57)) || c == 45
def uriZ (c : Int) : Bool := wordZ c || c == 35 || c == 59 || c == 47 || c == 63 || c == 58 || c == 64 || c == 38 || c == 61 || c == 43 || c == 36 || c == 95 || c == 46 || c == 33 || c == 126 || c == 42 || c == 39 || c == 40 || c == 41 || c == 37 || c == 44 || c == 91 || c == 93

def hexB (c : UInt8) : Bool := hexZ c.toNat
def flowB (c : UInt8) : Bool := flowZ c.toNat
def wordB (c : UInt8) : Bool := wordZ c.toNat
def uriB (c : UInt8) : Bool := uriZ c.toNat

def percentL : Bs → Bool
  | _ :: a :: b :: _ => hexB a && hexB b
  | _ => false

def urisL (t : Bool) : Bs → Nat
  | [] => 0
  | c :: r => if uriB c && (c != 37 || percentL (c :: r)) && !(t && (c == 33 || flowB c)) then urisL t r + 1 else 0

def wordsL : Bs → Nat
  | [] => 0
  | c :: r => if wordB c then wordsL r + 1 else 0

def handleL (s : Bs) : Nat := if s[1 + wordsL (s.drop 1)]? = some 33 then 1 + wordsL (s.drop 1) + 1 else 0

def sizeL (s : Bs) : Nat :=
  if s.head? ≠ some 33 then 0
  else if s[1]? = some 60 ∧ 0 < urisL false (s.drop 2) ∧ s[2 + urisL false (s.drop 2)]? = some 62 then urisL false (s.drop 2) + 3
  else if 0 < handleL s ∧ 0 < urisL true (s.drop (handleL s)) then handleL s + urisL true (s.drop (handleL s))
  else 1 + urisL true (s.drop 1)

theorem urisL_le (t : Bool) (l : Bs) : urisL t l ≤ l.length := by
  induction l with
  | nil => simp [urisL]
  | cons c r ih => unfold urisL; split <;> simp <;> omega
theorem wordsL_le (l : Bs) : wordsL l ≤ l.length := by
  induction l with
  | nil => simp [wordsL]
  | cons c r ih => unfold wordsL; split <;> simp <;> omega
theorem handleL_le (l : Bs) : handleL l ≤ l.length := by
  unfold handleL
  split
  · rename_i h
    have := (List.getElem?_eq_some_iff.1 h).1
    omega
  · omega

theorem percentL_at (s : ByteArray) (h : 3 ≤ s.size) : percentL s.data.toList = (hexB (s[1]'(by omega)) && hexB (s[2]'(by omega))) := by
  obtain ⟨⟨l⟩⟩ := s
  match l, h with
  | _ :: a :: b :: _, _ => rfl
theorem percentL_short (s : ByteArray) (h : s.size < 3) : percentL s.data.toList = false := by
  obtain ⟨⟨l⟩⟩ := s
  match l, h with
  | [], _ => rfl
  | [_], _ => rfl
  | [_, _], _ => rfl
  | _ :: _ :: _ :: r, h => simp [ByteArray.size] at h; omega

/- THE SAME ON GO's STRINGS, behind names that the walk's simp does not open. -/
def percentS (s : ByteArray) : Bool := percentL s.data.toList
def urisS (t : Bool) (s : ByteArray) : Nat := urisL t s.data.toList
def handleS (s : ByteArray) : Nat := handleL s.data.toList

/-- a list's piece from a place on. -/
theorem drop_step (s : ByteArray) (k : Nat) (h : k < s.size) : s.data.toList.drop k = s[k] :: s.data.toList.drop (k + 1) :=
  List.drop_eq_getElem_cons (l := s.data.toList) (by simpa using h)
theorem extract_to_end (s : ByteArray) (k : Nat) : (s.extract k s.size).data.toList = s.data.toList.drop k := by
  rw [ByteArray.data_extract, Array.toList_extract]
  show List.take (s.data.size - k) _ = _
  exact List.take_of_length_le (by simp)
theorem uris_step (s : ByteArray) (t : Bool) (k : Nat) (h : k < s.size) : urisL t (s.data.toList.drop k) =
    if uriZ (s[k].toNat : Int) = true ∧ (¬ (s[k].toNat : Int) = 37 ∨ percentS (s.extract k s.size) = true) ∧ ¬ (t = true ∧ ((s[k].toNat : Int) = 33 ∨ flowZ (s[k].toNat : Int) = true)) then urisL t (s.data.toList.drop (k + 1)) + 1 else 0 := by
  have e33 : (s[k] == 33) = decide ((s[k].toNat : Int) = 33) := by
    rw [Bool.eq_iff_iff, beq_iff_eq, decide_eq_true_eq, ← UInt8.toNat_inj]; simp; omega
  have e37 : (s[k] == 37) = decide ((s[k].toNat : Int) = 37) := by
    rw [Bool.eq_iff_iff, beq_iff_eq, decide_eq_true_eq, ← UInt8.toNat_inj]; simp; omega
  rw [drop_step s k h, urisL, ← drop_step s k h, percentS, extract_to_end]
  cases t <;> simp [uriB, flowB, bne, e33, e37, and_assoc]
theorem words_step (s : ByteArray) (k : Nat) (h : k < s.size) : wordsL (s.data.toList.drop k) = if wordZ (s[k].toNat : Int) = true then wordsL (s.data.toList.drop (k + 1)) + 1 else 0 := by
  rw [drop_step s k h, wordsL]; rfl
theorem words_end (s : ByteArray) (k : Nat) (h : s.size ≤ k) : wordsL (s.data.toList.drop k) = 0 := by
  rw [List.drop_eq_nil_of_le (by simpa using h)]; rfl
theorem uris_end (t : Bool) (s : ByteArray) (k : Nat) (h : s.size ≤ k) : urisL t (s.data.toList.drop k) = 0 := by
  rw [List.drop_eq_nil_of_le (by simpa using h)]; rfl

/-- what handle tells, at the end of its loop. -/
theorem handle_at (s : ByteArray) (k : Nat) (h : 1 + wordsL (s.data.toList.drop 1) = k + wordsL (s.data.toList.drop k)) (hlt : k < s.size) (hw : wordZ (s[k].toNat : Int) = false) :
    handleS s = if (s[k].toNat : Int) = 33 then k + 1 else 0 := by
  have e : (s.data.toList)[k]? = some s[k] := List.getElem?_eq_getElem (l := s.data.toList) (by simpa using hlt)
  have hw0 : wordsL (s.data.toList.drop k) = 0 := by rw [words_step s k hlt]; simp [hw]
  rw [handleS, handleL, h, hw0, Nat.add_zero, e]
  have e33 : (some s[k] = some 33) ↔ (s[k].toNat : Int) = 33 := by rw [Option.some_inj, ← UInt8.toNat_inj]; simp; omega
  simp only [e33]
theorem handle_out (s : ByteArray) (k : Nat) (h : 1 + wordsL (s.data.toList.drop 1) = k + wordsL (s.data.toList.drop k)) (hlt : s.size ≤ k) : handleS s = 0 := by
  have e : (s.data.toList)[k]? = none := List.getElem?_eq_none (by simpa using hlt)
  rw [handleS, handleL, h, words_end s k hlt, Nat.add_zero, e]
  simp
end Go.Proofs.YtabdhfpohodohaaDoor
