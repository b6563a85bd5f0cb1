/-
  hand.told at a text of ASCII bytes in which each percent sign stands ahead of two hex digits: what it computes ('toldL').
-/
import Derived.Test.YtabdhfpohodohaaDoorHandE
import Derived.Lib.UnsafeStr
import Derived.BigQuiet
import Derived.Deep.QuietTactic
import Derived.Deep.RegionWith
namespace Go.Proofs.YtabdhfpohodohaaDoor
open Go.RowKit

def hexByte (a b : UInt8) : UInt8 := UInt8.ofNat (hexV (a.toNat : Int) * 16 + hexV (b.toNat : Int)).toNat
def toldL : Bs → Bs
  | c :: a :: b :: r => if c = 37 then hexByte a b :: toldL r else c :: toldL (a :: b :: r)
  | l => l
def toldS (s : ByteArray) : ByteArray := mkS (toldL s.data.toList)

/-- ASCII alone; behind each percent sign two hex digits. -/
def OkA (s : ByteArray) : Prop := ∀ k (h : k < s.size), s[k].toNat < 128
def OkP (s : ByteArray) : Prop := ∀ k (h : k < s.size), s[k].toNat = 37 → ∃ h2 : k + 2 < s.size, hexZ (s[k + 1].toNat : Int) = true ∧ hexZ (s[k + 2].toNat : Int) = true

theorem told_other (s : ByteArray) (k : Nat) (h : k < s.size) (hc : ¬ (s[k].toNat : Int) = 37) : toldL (s.data.toList.drop k) = s[k] :: toldL (s.data.toList.drop (k + 1)) := by
  have hne : ¬ s[k] = 37 := by
    intro e
    rw [e] at hc
    exact hc rfl
  rw [drop_step s k h]
  match s.data.toList.drop (k + 1) with
  | [] => rfl
  | [_] => rfl
  | a :: b :: r => rw [toldL, if_neg hne]
theorem told_percent (s : ByteArray) (k : Nat) (h : k + 2 < s.size) (hc : (s[k].toNat : Int) = 37) : toldL (s.data.toList.drop k) = hexByte s[k + 1] s[k + 2] :: toldL (s.data.toList.drop (k + 3)) := by
  have he : s[k] = 37 := by rw [← UInt8.toNat_inj]; simp; omega
  rw [drop_step s k (by omega), drop_step s (k + 1) (by omega), drop_step s (k + 2) h, toldL, if_pos he]
theorem told_end (s : ByteArray) (k : Nat) (h : s.size ≤ k) : toldL (s.data.toList.drop k) = [] := by
  rw [List.drop_eq_nil_of_le (by simpa using h)]; rfl
theorem ext2 (s : ByteArray) (k : Nat) (h : k + 2 < s.size) : s.extract (k + 1) (k + 3) = ⟨#[s[k + 1], s[k + 2]]⟩ := by
  apply ByteArray.ext
  apply Array.toList_inj.1
  rw [ByteArray.data_extract, Array.toList_extract]
  show List.take (k + 3 - (k + 1)) _ = _
  rw [show k + 3 - (k + 1) = 2 from by omega, drop_step s (k + 1) (by omega), drop_step s (k + 2) h]
  rfl

theorem info5 : (Tryd.prog.info? 5).map (fun i => (i.zero, i.size, i.bytes)) = some (some (.int .u8 0), 1, 1) := by kernel_rfl

theorem own_below {w w' : World} {B e size n : Nat} {v : Value} {xs : List Value} (h : w.ownsRow B e size v n xs) (hb : Below w.heap.size w w') : w'.ownsRow B e size v n xs := by
  refine ⟨h.1, ?_⟩
  rcases h.2 with hn | ⟨g, cap, cur, rfl, hg, hgg, rest⟩
  · exact .inl hn
  · exact .inr ⟨g, cap, cur, rfl, hg, by rw [hb.block g (Array.getElem?_eq_some_iff.1 hgg).1]; exact hgg, rest⟩
/-- what an append onto a row above the iterator leaves of the iterator, and of what lay before. -/
theorem iter_push {w W1 w3 : World} {e n : Nat} {v : Value} {xs : List Value} {s : ByteArray} {p : Nat} {o : Obj} (hown : W1.ownsRow (w.heap.size + 1) e 1 v n xs) (hit : W1.heap[w.heap.size]? = some (.stringIter s p)) (hbw : Below w.heap.size w W1)
    (hg : (W1.alloc o).grownBy w3 v.ownBlock) : w3.heap[w.heap.size]? = some (.stringIter s p) ∧ Below w.heap.size w w3 := by
  have hlt := lt_of_block hit
  refine ⟨?_, Below.grown (hbw.alloc (by omega) _) hg (by simp; omega) (fun j hj => by have := (hown.lt _ hj).1; omega)⟩
  rw [hg.block w.heap.size (by simp; omega) (fun h => by have := (hown.lt _ h.symm).1; omega), Below.heap_alloc _ _ _ hlt]
  exact hit
theorem cell_byte_new (w : World) (x : Int) (t : TypeId) : ∀ j u, [Value.int .u8 x][j]? = some u → (w.alloc (.cells #[.int .u8 x] t)).cell? ((⟨w.heap.size, 0, none⟩ : Addr).add j) = some u := by
  intro j u hj
  match j, hj with
  | 0, hj => simp at hj; subst hj; simp [Addr.add]
theorem byteCells_snoc (acc : Bs) (c : UInt8) : Lib.byteCells acc ++ [Value.int .u8 (c.toNat : Int)] = Lib.byteCells (acc ++ [c]) := by rw [Lib.byteCells_append]; rfl
theorem hexByte_val {a b : UInt8} (h0 : hexZ (a.toNat : Int) = true) (h1 : hexZ (b.toNat : Int) = true) : hexV (a.toNat : Int) * 16 + hexV (b.toNat : Int) = ((hexByte a b).toNat : Int) := by
  have ha := hexV_le (hex_ways h0)
  have hb := hexV_le (hex_ways h1)
  unfold hexByte
  rw [UInt8.toNat_ofNat_of_lt' (by simp; omega)]
  omega

theorem conv_own {w : World} {B : Nat} {v : Value} {acc : Bs} (h : w.ownsRow B 5 1 v acc.length (Lib.byteCells acc)) :
    (convert 45 9 v).run Tryd.prog w = .ok (.string (mkS acc)) w := by
  rcases h.2 with ⟨rfl, h0⟩ | ⟨g, cap, cur, rfl, _⟩
  · have : acc = [] := List.eq_nil_of_length_eq_zero h0
    subst this
    exact run_convert_bytes_nil w 45 5 Tryd.underlying45 Tryd.underlying5 0 0 9 Tryd.underlying9
  · refine run_convert_bytes_back w 45 9 5 ⟨g, 0, none⟩ cap acc Tryd.underlying45 Tryd.underlying5 Tryd.underlying9 (fun j hj => ?_)
    refine h.cells (g := g) rfl j _ ?_
    simp [Lib.byteCells, hj]

theorem undrew {w w' : World} (h : Below w.drew.heap.size w.drew w') : Below w.heap.size w w' := ⟨h.os, h.tape, h.output, h.size, h.block⟩
theorem toldL_le (l : Bs) : (toldL l).length ≤ l.length := by
  induction l using toldL.induct with
  | case1 a b r ih => rw [toldL, if_pos rfl]; simp; omega
  | case2 c a b r hc ih => rw [toldL, if_neg hc]; simp at ih ⊢; exact ih
  | case3 l h => 
    match l, h with
    | [], _ => simp [toldL]
    | [_], _ => simp [toldL]
    | [_, _], _ => simp [toldL]
    | c :: a :: b :: r, h => exact absurd rfl (h c a b r)
theorem toldS_le (s : ByteArray) {n : Nat} (h : s.size ≤ n) : (toldS s).size ≤ n := by
  have := toldL_le s.data.toList
  rw [toldS, mkS_size]
  simp at this
  exact Nat.le_trans this h

set_option maxRecDepth 100000 in
set_option maxHeartbeats 2000000 in
theorem told_any (s : ByteArray) (w : World) (hs : s.size ≤ 140737488355327) (hA : Hid (OkA s)) (hP : Hid (OkP s)) (hT : Hid (Lib.Utf8Tabs 3 4 w)) :
    Calls Tryd.prog 21 #[.string s] w fun e w' => e = .returned (.tuple #[.string (toldS s), .bool (decide (placeS (toldS s) < 0))]) ∧ Below w.heap.size w w' := by
  obtain ⟨i0, hi, hz0, hz1, hz2⟩ := info_parts info5
  go_enter Tryd.func21, Tryd.ntmps21
  go_wp2
  go_loopw [4, 5] (fun v f wr => ∃ (pos fr : Nat) (acc : Bs), f = .int .i64 fr ∧ fr ≤ s.size ∧ pos ≤ s.size ∧ fr ≤ pos + 3 ∧ wr.heap[w.heap.size]? = some (.stringIter s pos) ∧ wr.ownsRow (w.heap.size + 1) 5 1 v acc.length (Lib.byteCells acc) ∧ Below w.heap.size w wr ∧ Hid (toldL s.data.toList = acc ++ toldL (s.data.toList.drop (max pos fr))) ∧ acc.length ≤ max pos fr) (fun _ _ wr => s.size - wr.iterPos w.heap.size)
  case atStart => exact ⟨0, 0, [], rfl, Nat.zero_le _, Nat.zero_le _, by omega, World.iter_heap w s 0, World.ownsRow_nil _ _ _ _, (Below.refl _ _).alloc (Nat.le_refl _) _, rfl, by simp⟩
  case round =>
    obtain ⟨pos, fr, acc, rfl, hfr, hps, hfp, hit, hown, hbw, HS, hal⟩ := hrel
    have hpos0 := iterPos_of hit
    by_cases hp : pos < s.size
    · have hasc := hA.out pos hp
      have hnx : ∀ ty, (Instr.next (.pointer (some ⟨w.heap.size, 0, none⟩)) true ty).run Tryd.prog wr = _ := fun ty => Lib.run_next_ascii_at wr w.heap.size s pos ty hit hp hasc
      have hit2 := Lib.iterAt_heap wr w.heap.size s pos (pos + 1) hit
      have hbw2 := Lib.below_iterAt hbw (k := w.heap.size) (Nat.le_refl _) s (pos + 1)
      have hown2 := ownsRow_iterAt hown (k := w.heap.size) (by omega) s (pos + 1)
      obtain ⟨W1, hW1⟩ : ∃ W1, W1 = wr.iterAt w.heap.size s (pos + 1) := ⟨_, rfl⟩
      rw [← hW1] at hnx hit2 hbw2 hown2
      clear hW1 hit hown hbw hasc
      have hBlt := lt_of_block hit2
      by_cases hf : pos < fr
      · go_wp2
        refine ⟨⟨pos + 1, fr, acc, rfl, hfr, by omega, by omega, hit2, hown2, hbw2, Lib.hid ?_, by omega⟩, ?_⟩
        · rw [HS.out, Nat.max_eq_right (by omega), Nat.max_eq_right (by omega)]
        · rw [iterPos_of hit2, hpos0]; omega
      · by_cases hc : (s[pos].toNat : Int) = 37
        · obtain ⟨h2, x1, x2⟩ := hP.out pos hp (by omega)
          have X1 := Lib.hid x1
          have X2 := Lib.hid x2
          have HV := Lib.hid (hexByte_val x1 x2)
          clear x1 x2
          have hv0 : 0 ≤ ((hexByte s[pos + 1] s[pos + 2]).toNat : Int) ∧ ((hexByte s[pos + 1] s[pos + 2]).toNat : Int) ≤ 255 := by
            have := (hexByte s[pos + 1] s[pos + 2]).toNat_lt
            omega
          have HT : Hid (toldL (s.data.toList.drop pos) = hexByte s[pos + 1] s[pos + 2] :: toldL (s.data.toList.drop (pos + 3))) := Lib.hid (told_percent s pos h2 hc)
          have HC := Lib.hid hc
          have hne : ((s[pos].toNat : Int) != 37) = false := by rw [hc]; rfl
          clear hc
          generalize hexByte s[pos + 1] s[pos + 2] = hb at *
          go_wp2_with (first
            | (go_at_call 34; rw [ext2 s pos h2]; refine (parse_any _ _ _ X1 X2).mono ?_; rintro e w' ⟨rfl, hbp⟩; rw [HV.out]; have hown3 := own_below hown2 hbp)
            | (at_builtin; refine wpList_append_own _ rfl (.tmp 39) (.tmp 42) 45 rfl (w.heap.size + 1) 5 i0 (.int .u8 0) 1 1 Tryd.underlying45 hi hz0 hz1 hz2 rfl (by decide) _ _ _ rfl (hown3.alloc _) ⟨w'.heap.size, 0, none⟩ 1 1 [.int .u8 (hb.toNat : Int)] rfl rfl ?c1 ?c2 ?c3 ?c4 ?c5 ?_))
          case c1 => exact cell_byte_new _ _ _
          case c2 => intro u hu; simp at hu; subst hu; rfl
          case c3 => unfold maxLen; omega
          case c4 => omega
          case c5 => have := hbp.size; simp; omega
          intro v' w3 hown' hgrow3 _
          obtain ⟨hit3, hbw3⟩ := iter_push hown3 ((hbp.block _ hBlt).trans hit2) (hbw2.trans (hbp.mono hbw2.size)) hgrow3
          rw [byteCells_snoc] at hown'
          clear hgrow3 hown2 hown3 hit2 hbw2 hnx hbp
          go_wp2
          go_roundw
          case rel =>
            refine ⟨pos + 1, pos + 3, acc ++ [hb], by go_num, by omega, by omega, by omega, hit3, by simpa using hown', hbw3, Lib.hid ?_, by simp; omega⟩
            rw [HS.out, Nat.max_eq_left (by omega), Nat.max_eq_right (by omega), HT.out]
            simp
          case measure => rw [iterPos_of hit3, hpos0]; omega
        · go_wp2_with (at_builtin; refine wpList_append_own _ rfl (.tmp 23) (.tmp 27) 45 rfl (w.heap.size + 1) 5 i0 (.int .u8 0) 1 1 Tryd.underlying45 hi hz0 hz1 hz2 rfl (by decide) _ _ _ rfl (hown2.alloc _) ⟨W1.heap.size, 0, none⟩ 1 1 [.int .u8 (s[pos].toNat : Int)] rfl rfl ?d1 ?d2 ?d3 ?d4 ?d5 ?_)
          case d1 => exact cell_byte_new _ _ _
          case d2 => intro u hu; simp at hu; subst hu; rfl
          case d3 => unfold maxLen; omega
          case d4 => omega
          case d5 => simp; omega
          intro v' w3 hown' hgrow3 _
          obtain ⟨hit3, hbw3⟩ := iter_push hown2 hit2 hbw2 hgrow3
          rw [byteCells_snoc] at hown'
          clear hgrow3 hown2 hit2 hbw2 hnx
          go_wp2
          go_roundw
          case rel =>
            refine ⟨pos + 1, fr, acc ++ [s[pos]], rfl, hfr, by omega, by omega, hit3, by simpa using hown', hbw3, Lib.hid ?_, by simp; omega⟩
            rw [HS.out, Nat.max_eq_left (by omega), Nat.max_eq_left (by omega), told_other s pos hp hc]
            simp
          case measure => rw [iterPos_of hit3, hpos0]; omega
    · have hnx : ∀ ty, (Instr.next (.pointer (some ⟨w.heap.size, 0, none⟩)) true ty).run Tryd.prog wr = _ := fun ty => Lib.run_next_end_at wr w.heap.size s pos ty hit hp
      have HE : mkS acc = toldS s := by
        rw [toldS, HS.out, told_end s _ (by omega), List.append_nil]
      have hcv : ∀ W, Below wr.heap.size wr W → (convert 45 9 u4).run Tryd.prog W = .ok (.string (toldS s)) W := by
        rw [← HE]
        exact fun W hW => conv_own (own_below hown hW)
      have hcv1 := hcv wr (Below.refl _ _)
      have hcv2 := hcv wr.drew (Below.refl _ _).drew
      have HCV := Lib.hid hcv
      clear hcv hown HE HS
      have hBl : w.heap.size ≤ wr.heap.size := hbw.size
      go_wp2
      go_region_with (go_at_call 35; (refine (place_any _ _ ?_ ?_).mono ?_; exact toldS_le s (by omega); exact Lib.hid (tabs_below hT.out hbw.drew); rintro e w' ⟨rfl, hbp⟩; have hbp2 := undrew hbp; have hcv3 := HCV.out w' hbp2; clear hbp))
      all_goals go_wp2
      all_goals go_ret2
      all_goals exact ⟨rfl, hbw.trans (hbp2.mono hBl)⟩
end Go.Proofs.YtabdhfpohodohaaDoor
