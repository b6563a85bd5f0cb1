/-
  utfs.Place: what it computes ('placeS').
-/
import Derived.Test.YtabdhfpohodohaaDoorHandD
import Derived.Lib.OthersKept
import Derived.Lib.RuneCountTail
import Derived.Lib.RuneCount
import Derived.WalkSmall
namespace Go.Proofs.YtabdhfpohodohaaDoor
open Go.RowKit

/-- the place of the first byte that is of no code point, from a place on, by at most so many code points. -/
def placeF (s : ByteArray) : Nat → Nat → Int
  | 0, _ => -1
  | f + 1, p => if p < s.size then (if (Utf8.decode s p).1 = 65533 ∧ (Utf8.decode s p).2 < 2 then (p : Int) else placeF s f (p + (Utf8.decode s p).2)) else -1
def placeS (s : ByteArray) : Int := placeF s s.size 0

theorem tabs_below {w w' : World} {g3 g4 : Nat} (h : Lib.Utf8Tabs g3 g4 w) (hb : Below w.heap.size w w') : Lib.Utf8Tabs g3 g4 w' := by
  have lt : ∀ (b o : Nat) (v : Value), w.cell? ⟨b, o, none⟩ = some v → b < w.heap.size := by
    intro b o v hc
    rcases Nat.lt_or_ge b w.heap.size with hlt | hge
    · exact hlt
    · unfold World.cell? at hc
      simp [Array.getElem?_eq_none hge] at hc
  have l3 := lt _ _ _ (h.1 0 (by decide))
  have l4 := lt _ _ _ (h.2 0 (by decide)).1
  exact ⟨fun c hc => (hb.cell (p := ⟨g3, c, none⟩) l3).trans (h.1 c hc), fun i hi => ⟨(hb.cell (p := ⟨g4, 2 * i, none⟩) l4).trans (h.2 i hi).1, (hb.cell (p := ⟨g4, 2 * i + 1, none⟩) l4).trans (h.2 i hi).2⟩⟩

def brokenB (r size : Int) : Bool := r == 65533 && decide (size < 2)
set_option maxHeartbeats 400000 in
theorem broken_any (r size : Int) (w : World) :
    Calls Tryd.prog 49 #[.int .i32 r, .int .i64 size] w fun e w' => e = .returned (.bool (brokenB r size)) ∧ w = w' := by
  cases h : (r == 65533)
  · go_enter Tryd.func49, Tryd.ntmps49
    go_wp2
    all_goals go_ret
    all_goals exact ⟨ret_bool (by simp [brokenB, h]), rfl⟩
  · go_enter Tryd.func49, Tryd.ntmps49
    go_wp2
    all_goals go_ret
    all_goals exact ⟨ret_bool (by simp [brokenB, h]), rfl⟩

set_option maxRecDepth 100000 in
set_option maxHeartbeats 1000000 in
theorem place_any (s : ByteArray) (w : World) (hs : s.size ≤ 140737488355328) (hT : Hid (Lib.Utf8Tabs 3 4 w)) :
    Calls Tryd.prog 35 #[.string s] w fun e w' => e = .returned (.int .i64 (placeS s)) ∧ Below w.heap.size w w' := by
  go_enter Tryd.func35, Tryd.ntmps35
  go_wp2
  go_loopw [] (fun wr => ∃ pos fuel : Nat, wr.heap[w.heap.size]? = some (.stringIter s pos) ∧ Below w.heap.size w wr ∧ Hid (placeF s fuel pos = placeS s) ∧ s.size ≤ pos + fuel) (fun wr => s.size - wr.iterPos w.heap.size)
  case atStart => exact ⟨0, s.size, World.iter_heap w s 0, (Below.refl _ _).alloc (Nat.le_refl _) _, rfl, by omega⟩
  case round =>
    obtain ⟨pos, fuel, hit, hbw, HS, hfu⟩ := hrel
    have hpos0 := iterPos_of hit
    by_cases hp : pos < s.size
    · have hnx : ∀ ty, (Instr.next (.pointer (some ⟨w.heap.size, 0, none⟩)) true ty).run Tryd.prog wr = _ := fun ty => Lib.run_next_any_at wr w.heap.size s pos ty hit hp
      have hwd := Lib.decode_width_pos s pos hp
      have hd1 := decode_le s pos
      obtain ⟨f, rfl⟩ : ∃ f, fuel = f + 1 := ⟨fuel - 1, by omega⟩
      have HS' : Hid (placeS s = if (Utf8.decode s pos).1 = 65533 ∧ (Utf8.decode s pos).2 < 2 then (pos : Int) else placeF s f (pos + (Utf8.decode s pos).2)) := Lib.hid (by rw [← HS.out, placeF, if_pos hp])
      have hit2 := Lib.iterAt_heap wr w.heap.size s pos (pos + (Utf8.decode s pos).2) hit
      have hbw2 := Lib.below_iterAt hbw (k := w.heap.size) (Nat.le_refl _) s (pos + (Utf8.decode s pos).2)
      obtain ⟨W1, hW1⟩ : ∃ W1, W1 = wr.iterAt w.heap.size s (pos + (Utf8.decode s pos).2) := ⟨_, rfl⟩
      have HD : Hid (Lib.decodeGo (s.extract pos s.size) = Utf8.decode s pos) := Lib.hid (by
        rw [Lib.decodeGo, if_neg (by simp; omega), Lib.tail_decode, Nat.add_zero])
      rw [← hW1] at hnx hit2 hbw2
      clear hW1 hit hbw HS
      have hBlt := lt_of_block hit2
      generalize hd : Utf8.decode s pos = d at *
      clear hd
      obtain ⟨r, k⟩ := d
      dsimp only at hnx hwd hd1 HS' hit2
      by_cases h53 : r = 65533
      · subst h53
        go_wp2_with (first | (go_at_call 48; refine (Tryd.utf8_DecodeRuneInString _ _ (tabs_below hT.out hbw2)).mono ?_; rintro e w' ⟨rfl, hb3⟩; rw [HD.out]) | (go_at_call 49; refine (broken_any _ _ _).mono ?_; rintro e w' ⟨rfl, rfl⟩))
        · have h : brokenB 65533 k = true := by assumption
          have h2 : k < 2 := by simp [brokenB] at h; omega
          go_ret
          exact ⟨ret_int (HS'.out.trans (if_pos ⟨trivial, h2⟩)).symm, hbw2.trans (hb3.mono hbw2.size)⟩
        · have h : brokenB 65533 k = false := by assumption
          have h2 : ¬ k < 2 := by simp [brokenB] at h; omega
          have hit3 : w'.heap[w.heap.size]? = some (.stringIter s (pos + k)) := (hb3.block _ hBlt).trans hit2
          refine ⟨⟨pos + k, f, hit3, hbw2.trans (hb3.mono hbw2.size), Lib.hid (HS'.out.trans (if_neg (fun h => h2 h.2))).symm, by omega⟩, ?_⟩
          rw [iterPos_of hit3, hpos0]; omega
      · go_wp2
        refine ⟨⟨pos + k, f, hit2, hbw2, Lib.hid (HS'.out.trans (if_neg (fun h => h53 h.1))).symm, by omega⟩, ?_⟩
        rw [iterPos_of hit2, hpos0]; omega
    · have hnx : ∀ ty, (Instr.next (.pointer (some ⟨w.heap.size, 0, none⟩)) true ty).run Tryd.prog wr = _ := fun ty => Lib.run_next_end_at wr w.heap.size s pos ty hit hp
      have HE : Hid (placeS s = -1) := Lib.hid (by
        rw [← HS.out]
        cases fuel with
        | zero => rfl
        | succ f => rw [placeF, if_neg hp])
      go_wp2
      go_ret
      exact ⟨ret_int HE.out.symm, hbw⟩
end Go.Proofs.YtabdhfpohodohaaDoor
