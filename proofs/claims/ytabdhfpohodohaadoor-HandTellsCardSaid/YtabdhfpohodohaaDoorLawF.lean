/-
  bosketlaw9.HandTells returns true.
-/
import Derived.Test.YtabdhfpohodohaaDoorLawD
import Derived.Test.YtabdhfpohodohaaDoorRefF
namespace Go.Proofs.YtabdhfpohodohaaDoor
open Go.RowKit

/-- the tag's text, so far. -/
def TagTo (k : Nat) (s : ByteArray) : Prop := s.size ≤ 1 + 6 * k
theorem TagTo.next {k : Nat} {s d : ByteArray} (h : TagTo k s) (hd : d.size ≤ 6) : TagTo (k + 1) (s ++ d) := by
  unfold TagTo at *
  rw [ByteArray.size_append]; omega

theorem info_str : (Tryd.prog.info? 9).map (fun i => (i.zero, i.size, i.bytes)) = some (some (.string ⟨#[]⟩), 1, 16) := by kernel_rfl
theorem refFull_at (A : Option Addr) (n c : Nat) (ss : List ByteArray) (tag : ByteArray) (w : World) (r : ByteArray) (k : Int) (h : fullS ss tag = (r, k)) (hN : n ≤ 140737488355328) (hR : ReadsS w w.heap.size A n ss) (hsz : Hid (∀ d ∈ ss, d.size ≤ 140737488355328)) (hs : tag.size ≤ 140737488355327) :
    Calls Tryd.prog 11 #[.slice A n c, .string tag] w fun e w' => e = .returned (.tuple #[.string r, .int .i64 k]) ∧ Below w.heap.size w w' :=
  (refFull_any A n c ss tag w hN hR hsz hs).mono fun _ _ ⟨he, hb⟩ => ⟨by rw [he, h], hb⟩
theorem refSize_at (s : ByteArray) (a : Int) (w : World) (n : Nat) (h : sizeZ s a = n) (hs : s.size ≤ 140737488355327) :
    Calls Tryd.prog 13 #[.string s, .int .i64 a] w fun e w' => e = .returned (.int .i64 n) ∧ w = w' :=
  (refSize_any s a w hs).mono fun _ _ ⟨m, he, hm, hw⟩ => ⟨by rw [he, hm.out, h], hw⟩

/-- what the second loop keeps. -/
def Env (w wr : World) (A : Option Addr) (m : Nat) (ll : List ByteArray) : Prop := Below w.heap.size w wr ∧ ReadsS wr wr.heap.size A m ll
theorem Env.next {w wr w1 : World} {A : Option Addr} {m : Nat} {ll : List ByteArray} (h : Env w wr A m ll) (hb : Below wr.heap.size wr w1) : Env w w1 A m ll :=
  ⟨h.1.trans (hb.mono h.1.size), (h.2.below hb).more hb.size⟩
theorem Env.dirs {w wr : World} {A A2 : Option Addr} {m n2 : Nat} {ll ss : List ByteArray} (h : Env w wr A m ll) (hR : ReadsS w w.heap.size A2 n2 ss) : ReadsS wr wr.heap.size A2 n2 ss := (hR.below h.1).more h.1.size
theorem Env.tabs {w wr : World} {A : Option Addr} {m : Nat} {ll : List ByteArray} (h : Env w wr A m ll) (hT : Hid (Lib.Utf8Tabs 3 4 w)) : Hid (Lib.Utf8Tabs 3 4 wr) := Lib.hid (tabs_below hT.out h.1)

set_option maxRecDepth 100000 in
set_option maxHeartbeats 4000000 in
theorem tells_in (s : ByteArray) (at_ : Int) (A : Option Addr) (n c : Nat) (zs : List Int) (A2 : Option Addr) (n2 c2 : Nat) (ss : List ByteArray) (w : World) (hs : s.size ≤ 60) (hN : n ≤ 14) (hR : ReadsI w w.heap.size A n zs)
    (hN2 : n2 ≤ 4) (hR2 : ReadsS w w.heap.size A2 n2 ss) (hL : longL 80 ss = false) (hT : Hid (Lib.Utf8Tabs 3 4 w)) :
    Calls Tryd.prog 3 #[.string s, .int .i64 at_, .slice A n c, .slice A2 n2 c2] w fun e w' => e = .returned (.bool true) ∧ Below w.heap.size w w' := by
  have hsz : Hid (∀ d ∈ ss, d.size ≤ 140737488355328) := Lib.hid fun d hd => by have := longL_le ss 80 hL d hd; omega
  have c1 : decide ((60 : Int) < (s.size : Int)) = false := by simp; omega
  have c2' : decide ((14 : Int) < (n : Int)) = false := by simp; omega
  have c3 : decide ((4 : Int) < (n2 : Int)) = false := by simp; omega
  obtain ⟨i0, hi, hz0, hz1, hz2⟩ := info_parts info_str
  go_enter Tryd.func3, Tryd.ntmps3
  go_wp2_with (first | (go_at_call 7; refine (lawLong_any _ _ _ ss _ _ (by omega) (by omega) hR2 (Lib.hid (fun d hd => Nat.le_trans (hsz.out d hd) (by decide)))).mono ?_; rintro e w' ⟨rfl, rfl⟩; rw [hL]))
  go_loopw [9, 10, 11] (fun t i j wr => ∃ (k : Nat) (b : ByteArray), k ≤ n ∧ t = .string b ∧ TagTo k b ∧ i = .int .i64 k ∧ Below w.heap.size w wr) (fun _ i _ _ => n - (intOf i).toNat)
  case atStart => exact ⟨0, _, Nat.zero_le _, rfl, (by unfold TagTo; decide), rfl, Below.refl _ _⟩
  case round =>
    obtain ⟨k, b, hk, rfl, HW, rfl, hbw⟩ := hrel
    have hbs : b.size ≤ 85 := by unfold TagTo at HW; omega
    by_cases hlt : k < n
    · obtain ⟨ad, z, rfl, hlb, hc0⟩ := (hR.below hbw).at_ hlt
      have hc : ∀ o, (wr.alloc o).cell? (ad.add k) = some (.int .i64 z) := fun o => (World.cell?_alloc_lt wr o (ad.add k) (by have := hbw.size; rw [block_of_add]; omega)).trans hc0
      go_wp2_with (first | (go_at_call 9; refine (low_any _ _ _ (by omega) (by omega)).mono ?_; rintro e w' ⟨r, rfl, hr, rfl⟩; obtain rfl | rfl | rfl | rfl | rfl | rfl | rfl | rfl | rfl | rfl | rfl | rfl | rfl | rfl | rfl | rfl : r = 0 ∨ r = 1 ∨ r = 2 ∨ r = 3 ∨ r = 4 ∨ r = 5 ∨ r = 6 ∨ r = 7 ∨ r = 8 ∨ r = 9 ∨ r = 10 ∨ r = 11 ∨ r = 12 ∨ r = 13 ∨ r = 14 ∨ r = 15 := by (obtain ⟨a, b⟩ := hr; omega)))
      all_goals exact ⟨⟨k + 1, _, by omega, rfl, HW.next (by decide), rfl, hbw.alloc hbw.size _⟩, by simp [intOf]; omega⟩
    · clear hR
      have hown := World.ownsRow_lit (base := w.heap.size) (e := 9) (size := 1) wr #[Value.string ⟨#[37, 84, 65, 71, 32, 33, 101, 33, 32, 120, 58, 44, 37, 52, 49]⟩] 1 hbw.size (by decide) rfl
      have hR3 : Reads (wr.alloc (.cells #[Value.string ⟨#[37, 84, 65, 71, 32, 33, 101, 33, 32, 120, 58, 44, 37, 52, 49]⟩] 9)) w.heap.size 1 A2 n2 (ss.map Value.string) := Reads.below hR2 (hbw.alloc hbw.size _)
      go_wp2_with (at_builtin; refine wpList_append_any _ rfl (.tmp 57) (.tmp 58) 23 rfl w.heap.size 9 i0 (.string ⟨#[]⟩) 1 16 Tryd.underlying23 hi hz0 hz1 hz2 rfl (by decide) _ 1 _ rfl hown w.heap.size A2 n2 c2 _ rfl hR3 ?c1 ?c2 ?c3 ?c4 ?_)
      case c1 => intro u hu; rfl
      case c2 => unfold maxLen; omega
      case c3 => omega
      case c4 => have := hbw.size; simp; omega
      intro v' w1 hown' hgrow hv'
      have hb0 : Below w.heap.size w w1 := Below.grown (hbw.alloc hbw.size _) hgrow (by have := hbw.size; simp; omega) (fun j hj => by
        have hj2 : some wr.heap.size = some j := hj
        have := Option.some.inj hj2
        have := hbw.size
        omega)
      obtain ⟨g, cap, rfl, hg, hgl⟩ := hown'.form (by omega)
      have hE : Env w w1 (some ⟨g, 0, none⟩) (1 + n2) (⟨#[37, 84, 65, 71, 32, 33, 101, 33, 32, 120, 58, 44, 37, 52, 49]⟩ :: ss) := ⟨hb0, Reads.of_own hown'⟩
      have hll : Hid (∀ d ∈ (⟨#[37, 84, 65, 71, 32, 33, 101, 33, 32, 120, 58, 44, 37, 52, 49]⟩ :: ss : List ByteArray), d.size ≤ 140737488355328) := Lib.hid fun d hd => by
        rcases List.mem_cons.1 hd with rfl | hd
        · decide
        · exact hsz.out d hd
      generalize (⟨#[37, 84, 65, 71, 32, 33, 101, 33, 32, 120, 58, 44, 37, 52, 49]⟩ :: ss : List ByteArray) = ll at hE hll
      clear hown' hgrow hv' hown hR3 hb0 hbw HW
      obtain ⟨b0, hb0⟩ : ∃ b0, b0 = b := ⟨b, rfl⟩
      go_wp2_with fail
      go_loopw [9, 13] (fun t i wr => ∃ (k : Nat) (b : ByteArray), k ≤ 2 ∧ t = .string b ∧ b.size ≤ 85 ∧ i = .int .i64 k ∧ Env w wr (some ⟨g, 0, none⟩) (1 + n2) ll) (fun _ i _ => 2 - (intOf i).toNat)
      case atStart => exact ⟨0, b, Nat.zero_le _, rfl, hbs, rfl, hE⟩
      case round =>
        clear hE hk hlt hbs hb0
        obtain ⟨k, b, hk, rfl, hbs, rfl, hE⟩ := hrel
        by_cases hlt : k < 2
        · obtain ⟨⟨r1, e1⟩, hF1⟩ : ∃ p, fullS ll b = p := ⟨_, rfl⟩
          obtain ⟨⟨r2, e2⟩, hF2⟩ : ∃ p, fullS ss s = p := ⟨_, rfl⟩
          obtain ⟨z1, hZ1⟩ : ∃ z, sizeZ b k = z := ⟨_, rfl⟩
          obtain ⟨z2, hZ2⟩ : ∃ z, sizeZ s at_ = z := ⟨_, rfl⟩
          obtain ⟨z3, hZ3⟩ : ∃ z, sizeZ s k = z := ⟨_, rfl⟩
          obtain ⟨z4, hZ4⟩ : ∃ z, sizeZ b (0 : Int) = z := ⟨_, rfl⟩
          have hz4 : z4 ≤ b.size := by rw [← hZ4]; exact sizeZ_le b 0
          replace hF1 := Lib.hid hF1
          replace hF2 := Lib.hid hF2
          replace hZ1 := Lib.hid hZ1
          replace hZ2 := Lib.hid hZ2
          replace hZ3 := Lib.hid hZ3
          replace hZ4 := Lib.hid hZ4
          go_wp2_with fail
          refine (full_at _ _ _ ll _ _ _ _ hF1.out (by omega) hE.2 hll.out (by omega) (hE.tabs hT)).mono ?_
          rintro e w2 ⟨rfl, hb⟩
          replace hE := hE.next hb
          clear hb
          go_wp2_with fail
          refine (refFull_at _ _ _ ll _ _ _ _ hF1.out (by omega) hE.2 hll (by omega)).mono ?_
          rintro e w3 ⟨rfl, hb⟩
          replace hE := hE.next hb
          clear hb
          go_wp2_with fail
          refine (full_at _ _ _ ss _ _ _ _ hF2.out (by omega) (hE.dirs hR2) hsz.out (by omega) (hE.tabs hT)).mono ?_
          rintro e w4 ⟨rfl, hb⟩
          replace hE := hE.next hb
          clear hb
          go_wp2_with fail
          refine (refFull_at _ _ _ ss _ _ _ _ hF2.out (by omega) (hE.dirs hR2) hsz (by omega)).mono ?_
          rintro e w5 ⟨rfl, hb⟩
          replace hE := hE.next hb
          clear hb
          go_wp2_with fail
          refine (size_at _ _ _ _ hZ1.out (by omega)).mono ?_
          rintro e w' ⟨rfl, rfl⟩
          go_wp2_with fail
          refine (refSize_at _ _ _ _ hZ1.out (by omega)).mono ?_
          rintro e w' ⟨rfl, rfl⟩
          go_wp2_with fail
          refine (size_at _ _ _ _ hZ2.out (by omega)).mono ?_
          rintro e w' ⟨rfl, rfl⟩
          go_wp2_with fail
          refine (refSize_at _ _ _ _ hZ2.out (by omega)).mono ?_
          rintro e w' ⟨rfl, rfl⟩
          go_wp2_with fail
          refine (size_at _ _ _ _ hZ3.out (by omega)).mono ?_
          rintro e w' ⟨rfl, rfl⟩
          go_wp2_with fail
          refine (refSize_at _ _ _ _ hZ3.out (by omega)).mono ?_
          rintro e w' ⟨rfl, rfl⟩
          go_wp2_with fail
          refine (size_at _ _ _ _ hZ4.out (by omega)).mono ?_
          rintro e w' ⟨rfl, rfl⟩
          go_wp2_with fail
          exact ⟨⟨k + 1, _, by omega, rfl, by rw [ByteArray.size_extract]; omega, rfl, hE⟩, by simp [intOf]; omega⟩
        · go_wp2_with fail
          refine (awake_any _ (hE.tabs hT)).mono ?_
          rintro e w4 ⟨rfl, hb⟩
          replace hE := hE.next hb
          go_wp2_with fail
          go_ret
          exact ⟨rfl, hE.1⟩

set_option maxRecDepth 100000 in
set_option maxHeartbeats 1000000 in
theorem tells_out (s : ByteArray) (at_ : Int) (A : Option Addr) (n c : Nat) (A2 : Option Addr) (n2 c2 : Nat) (ss : List ByteArray) (w : World) (hz : s.size ≤ 9223372036854775807) (hn : n ≤ 9223372036854775807) (hn2 : n2 ≤ 9223372036854775807)
    (hR2 : ReadsS w w.heap.size A2 n2 ss) (hsz : Hid (∀ d ∈ ss, d.size ≤ 9223372036854775807)) (hout : Hid (s.size ≤ 60 → n ≤ 14 → n2 ≤ 4 → longL 80 ss = true)) (hT : Hid (Lib.Utf8Tabs 3 4 w)) :
    Calls Tryd.prog 3 #[.string s, .int .i64 at_, .slice A n c, .slice A2 n2 c2] w fun e w' => e = .returned (.bool true) ∧ Below w.heap.size w w' := by
  by_cases h1 : s.size ≤ 60
  · have c1 : decide ((60 : Int) < (s.size : Int)) = false := by simp; omega
    by_cases h2 : n ≤ 14
    · have c2' : decide ((14 : Int) < (n : Int)) = false := by simp; omega
      by_cases h3 : n2 ≤ 4
      · have c3 : decide ((4 : Int) < (n2 : Int)) = false := by simp; omega
        have hL := hout.out h1 h2 h3
        go_enter Tryd.func3, Tryd.ntmps3
        go_wp2_with (first | (go_at_call 7; refine (lawLong_any _ _ _ ss _ _ (by omega) (by omega) hR2 hsz).mono ?_; rintro e w' ⟨rfl, rfl⟩; rw [hL]) | (go_at_call 8; refine (awake_any _ hT).mono ?_; rintro e w' ⟨rfl, hb⟩))
        go_ret
        exact ⟨rfl, hb⟩
      · have c3 : decide ((4 : Int) < (n2 : Int)) = true := by simp; omega
        go_enter Tryd.func3, Tryd.ntmps3
        go_wp2_with (first | (go_at_call 8; refine (awake_any _ hT).mono ?_; rintro e w' ⟨rfl, hb⟩))
        go_ret
        exact ⟨rfl, hb⟩
    · have c2' : decide ((14 : Int) < (n : Int)) = true := by simp; omega
      go_enter Tryd.func3, Tryd.ntmps3
      go_wp2_with (first | (go_at_call 8; refine (awake_any _ hT).mono ?_; rintro e w' ⟨rfl, hb⟩))
      go_ret
      exact ⟨rfl, hb⟩
  · have c1 : decide ((60 : Int) < (s.size : Int)) = true := by simp; omega
    go_enter Tryd.func3, Tryd.ntmps3
    go_wp2_with (first | (go_at_call 8; refine (awake_any _ hT).mono ?_; rintro e w' ⟨rfl, hb⟩))
    go_ret
    exact ⟨rfl, hb⟩

theorem lawTells_any (s : ByteArray) (at_ : Int) (A : Option Addr) (n c : Nat) (zs : List Int) (A2 : Option Addr) (n2 c2 : Nat) (ss : List ByteArray) (w : World) (hz : s.size ≤ 9223372036854775807) (hn : n ≤ 9223372036854775807) (hn2 : n2 ≤ 9223372036854775807)
    (hR : ReadsI w w.heap.size A n zs) (hR2 : ReadsS w w.heap.size A2 n2 ss) (hsz : ∀ d ∈ ss, d.size ≤ 9223372036854775807) (hT : Hid (Lib.Utf8Tabs 3 4 w)) :
    Calls Tryd.prog 3 #[.string s, .int .i64 at_, .slice A n c, .slice A2 n2 c2] w fun e w' => e = .returned (.bool true) ∧ Below w.heap.size w w' := by
  by_cases h : s.size ≤ 60 ∧ n ≤ 14 ∧ n2 ≤ 4 ∧ longL 80 ss = false
  · exact tells_in s at_ A n c zs A2 n2 c2 ss w h.1 h.2.1 hR h.2.2.1 hR2 h.2.2.2 hT
  · refine tells_out s at_ A n c A2 n2 c2 ss w hz hn hn2 hR2 (Lib.hid hsz) (Lib.hid fun h1 h2 h3 => ?_) hT
    cases hL : longL 80 ss
    · exact absurd ⟨h1, h2, h3, hL⟩ h
    · rfl
end Go.Proofs.YtabdhfpohodohaaDoor
