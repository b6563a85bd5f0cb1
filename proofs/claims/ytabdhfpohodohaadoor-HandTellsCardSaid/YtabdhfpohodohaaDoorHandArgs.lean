/-
  A slice of ints, of strings, among the arguments: it reads as a list; it reads behind the call as it read before.
-/
import Derived.Test.YtabdhfpohodohaaDoorHandLaid
import Derived.Test.YtabdhfpohodohaaDoorLawD
import Derived.SliceStrings
import Derived.Carry
namespace Go.Proofs.YtabdhfpohodohaaDoor
open Go.ChangeShapes Go.WideShapes Go.ChangeAt Go.RowKit Go.Lib

theorem laidOut : laidOutB Tryd.prog = true := by kernel_rfl
theorem cellsInt : Tryd.prog.cellsOf 3 = 1 := by kernel_rfl
theorem cellsStr : Tryd.prog.cellsOf 9 = 1 := by kernel_rfl
theorem cell_lt {w : World} {a : Addr} {v : Value} (h : w.cell? a = some v) : a.block < w.heap.size := by
  rcases Nat.lt_or_ge a.block w.heap.size with hlt | hge
  · exact hlt
  · unfold World.cell? at h
    simp [Array.getElem?_eq_none hge] at h

section
variable {H : Type} {enc : TypeId × Value → H} {W : World} {base : Nat} {v : Value} {d : DataW H} {p : List MemPlace}
theorem open_ints_arg (hval : Value.okWide Tryd.prog W .any base 22 v) (h : DataW.Trod enc Tryd.prog W 0 (fun _ => true) true 22 v d p) :
    ∃ (A : Option Addr) (n c : Nat) (zs : List Int), v = .slice A n c ∧ n ≤ maxLen ∧ ReadsI W W.heap.size A n zs := by
  obtain ⟨a0, n, c, rfl⟩ := okWide_slice Tryd.underlying22 hval
  obtain ⟨fuel, hf⟩ := h
  rcases open_ints Tryd.underlying22 Tryd.underlying3 cellsInt hf with ⟨hcs, hx⟩ | ⟨a, len', cap', zs, hcs, _, hl, hm, hz, hx, hcell, hwz⟩
  · simp [Value.cells] at hcs
    obtain ⟨rfl, rfl, rfl⟩ := hcs
    exact ⟨_, _, _, [], rfl, Nat.zero_le _, Reads.none_⟩
  · simp [Value.cells] at hcs
    obtain ⟨rfl, rfl, rfl⟩ := hcs
    simp only [if_true] at hz
    refine ⟨_, _, _, zs.take n, rfl, by omega, by simp; omega, fun hn => ⟨a, rfl, ?_, fun j u hu => ?_⟩⟩
    · have := cell_lt (hcell 0 (by omega))
      rw [block_of_add] at this
      exact this
    · rw [List.getElem?_map, Option.map_eq_some_iff] at hu
      obtain ⟨z, hz2, rfl⟩ := hu
      obtain ⟨h1, h2⟩ := List.getElem?_eq_some_iff.1 hz2
      have hj : j < zs.length := by simp at h1; omega
      rw [hcell j hj, ← h2]
      simp [List.getElem_take, List.getD_eq_getElem?_getD, hj]
theorem open_strings_arg (hval : Value.okWide Tryd.prog W .any base 23 v) (h : DataW.Trod enc Tryd.prog W 0 (fun _ => true) true 23 v d p) :
    ∃ (A : Option Addr) (n c : Nat) (ss : List ByteArray), v = .slice A n c ∧ n ≤ maxLen ∧ ReadsS W W.heap.size A n ss ∧ ∀ s ∈ ss, s.size ≤ maxLen := by
  obtain ⟨a0, n, c, rfl⟩ := okWide_slice Tryd.underlying23 hval
  obtain ⟨fuel, hf⟩ := h
  rcases open_strings Tryd.underlying23 Tryd.underlying9 cellsStr hf with ⟨hcs, hx⟩ | ⟨a, len', cap', ss, hcs, _, hl, hm, hz, hx, hcell, hwz⟩
  · simp [Value.cells] at hcs
    obtain ⟨rfl, rfl, rfl⟩ := hcs
    exact ⟨_, _, _, [], rfl, Nat.zero_le _, Reads.none_, by simp⟩
  · simp [Value.cells] at hcs
    obtain ⟨rfl, rfl, rfl⟩ := hcs
    simp only [if_true] at hz
    refine ⟨_, _, _, ss.take n, rfl, by omega, ⟨by simp; omega, fun hn => ⟨a, rfl, ?_, fun j u hu => ?_⟩⟩, fun s hs => hwz s (List.mem_of_mem_take hs)⟩
    · have := cell_lt (hcell 0 (by omega))
      rw [block_of_add] at this
      exact this
    · rw [List.getElem?_map, Option.map_eq_some_iff] at hu
      obtain ⟨z, hz2, rfl⟩ := hu
      obtain ⟨h1, h2⟩ := List.getElem?_eq_some_iff.1 hz2
      have hj : j < ss.length := by simp at h1; omega
      rw [hcell j hj, ← h2]
      simp [List.getElem_take, List.getD_eq_getElem?_getD, hj]
theorem keep_ints {W' : World} (h : DataW.Trod enc Tryd.prog W 0 (fun _ => true) true 22 v d p) (hb : Below W.heap.size W W') (hlt : ∀ x ∈ p, x.block < W.heap.size) : DataW.Trod enc Tryd.prog W' 0 (fun b => decide (b < W.heap.size)) true 22 v d p :=
  Below.trod laidOut (by kernel_rfl) (of_decide_eq_true (by kernel_rfl)) h hb hlt
theorem keep_strings {W' : World} (h : DataW.Trod enc Tryd.prog W 0 (fun _ => true) true 23 v d p) (hb : Below W.heap.size W W') (hlt : ∀ x ∈ p, x.block < W.heap.size) : DataW.Trod enc Tryd.prog W' 0 (fun b => decide (b < W.heap.size)) true 23 v d p :=
  Below.trod laidOut (by kernel_rfl) (of_decide_eq_true (by kernel_rfl)) h hb hlt
end
end Go.Proofs.YtabdhfpohodohaaDoor
