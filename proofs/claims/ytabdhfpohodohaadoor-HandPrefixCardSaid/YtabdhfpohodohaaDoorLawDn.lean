/-
  bosketlaw9.HandPrefix returns true: without directives.
-/
import Derived.Test.YtabdhfpohodohaaDoorLawD
namespace Go.Proofs.YtabdhfpohodohaaDoor
open Go.RowKit

theorem pref_bang2 : prefS (mkS [33, 33]) [] = (⟨#[116, 97, 103, 58, 121, 97, 109, 108, 46, 111, 114, 103, 44, 50, 48, 48, 50, 58]⟩ ++ ⟨#[]⟩, true) := by decide +kernel
theorem pref_bang1 : prefS (mkS [33]) [] = (⟨#[33]⟩, true) := by decide +kernel
theorem pref_none : (prefS (mkS [33, 101, 45, 49, 33]) []).2 = false := by decide +kernel
theorem long_nil : (⟨#[116, 97, 103, 58, 121, 97, 109, 108, 46, 111, 114, 103, 44, 50, 48, 48, 50, 58]⟩ ++ ⟨#[]⟩ : ByteArray) = ⟨#[116, 97, 103, 58, 121, 97, 109, 108, 46, 111, 114, 103, 44, 50, 48, 48, 50, 58]⟩ := by decide +kernel

set_option maxRecDepth 100000 in
set_option maxHeartbeats 4000000 in
theorem prefix_no (A : Option Addr) (n c : Nat) (zs : List Int) (x : Int) (w : World) (hN : 1 ≤ n ∧ n ≤ 10) (hR : ReadsI w w.heap.size A n zs) (hT : Hid (Lib.Utf8Tabs 3 4 w)) :
    Calls Tryd.prog 5 #[.int .i64 x, .slice A n c, .bool false] w fun e w' => e = .returned (.bool true) ∧ Below w.heap.size w w' := by
  go_enter Tryd.func5, Tryd.ntmps5
  go_wp2_with (first | (go_at_call 9; refine (low_any _ _ _ (by omega) (by omega)).mono ?_; rintro e w' ⟨r, rfl, hr, rfl⟩; obtain rfl | rfl | rfl : r = 0 ∨ r = 1 ∨ r = 2 := by (obtain ⟨a, b⟩ := hr; omega)))
  all_goals (
    go_loopw [9, 10] (fun s i wr => ∃ (k : Nat) (b : ByteArray), k ≤ n ∧ s = .string b ∧ WordsTo k b ∧ i = .int .i64 k ∧ Below w.heap.size w wr) (fun _ i _ => n - (intOf i).toNat)
    case atStart => exact ⟨0, _, Nat.zero_le _, rfl, ⟨[], rfl, by simp [Plain], Nat.le_refl _, Nat.le_refl _⟩, rfl, (Below.refl _ _).alloc (Nat.le_refl _) _⟩
    case round =>
      obtain ⟨k, b, hk, rfl, HW, rfl, hbw⟩ := hrel
      by_cases hlt : k < n
      · obtain ⟨ad, z, rfl, hlb, hc0⟩ := (hR.below hbw).at_ hlt
        have hc : ∀ o, (wr.alloc o).cell? (ad.add k) = some (.int .i64 z) := fun o => (World.cell?_alloc_lt wr o (ad.add k) (by have := hbw.size; rw [block_of_add]; omega)).trans hc0
        have hbs : b.size ≤ 30 := by
          obtain ⟨l, rfl, _, _, h3⟩ := HW
          rw [mkS_size]; omega
        go_wp2_with (first | (go_at_call 9; refine (low_any _ _ _ (by omega) (by omega)).mono ?_; rintro e w' ⟨r, rfl, hr, rfl⟩; obtain rfl | rfl | rfl | rfl | rfl | rfl : r = 0 ∨ r = 1 ∨ r = 2 ∨ r = 3 ∨ r = 4 ∨ r = 5 := by (obtain ⟨a, b⟩ := hr; omega)))
        all_goals exact ⟨⟨k + 1, _, by omega, rfl, HW.next _ (by unfold Plain; decide) (by decide), rfl, hbw.alloc hbw.size _⟩, by simp [intOf]; omega⟩
      · clear hR
        obtain ⟨l, rfl, hp, hl1, hl2⟩ := HW
        have HP := Lib.hid hp
        clear hp
        have hms : (mkS l).size ≤ 30 := by rw [mkS_size]; omega
        go_wp2_with fail
        refine (long_any _ _ (by decide)).mono ?_
        rintro e w' ⟨rfl, rfl⟩
        rw [long_nil]
        go_wp2_with fail
        first
          | (have _h : LowOf 3 0 := hr
             refine (full_again _ none 0 0 [] (mkS [33] ++ mkS l) (mkS [33] ++ mkS l) 0 ?_ (by decide) Reads.none_ (by simp) ?_ ?_).mono ?_
             · exact full_yes _ _ _ l (.inl rfl) pref_bang1 HP.out (by omega)
             · rw [ByteArray.size_append]
               show 1 + _ ≤ _
               omega
             · exact tabs_below hT.out (hbw.alloc hbw.size _))
          | (have _h : LowOf 3 1 := hr
             refine (full_again _ none 0 0 [] (mkS [33, 33] ++ mkS l) (⟨#[116, 97, 103, 58, 121, 97, 109, 108, 46, 111, 114, 103, 44, 50, 48, 48, 50, 58]⟩ ++ mkS l) 0 ?_ (by decide) Reads.none_ (by simp) ?_ ?_).mono ?_
             · exact full_yes _ _ _ l (.inr (.inl rfl)) (pref_bang2.trans (by rw [long_nil])) HP.out (by omega)
             · rw [ByteArray.size_append]
               show 2 + _ ≤ _
               omega
             · exact tabs_below hT.out (hbw.alloc hbw.size _))
          | (have _h : LowOf 3 2 := hr
             refine (full_again _ none 0 0 [] (mkS [33, 101, 45, 49, 33] ++ mkS l) ⟨#[]⟩ 8 ?_ (by decide) Reads.none_ (by simp) ?_ ?_).mono ?_
             · exact full_no _ _ l (.inr (.inr rfl)) pref_none HP.out (by omega)
             · rw [ByteArray.size_append]
               show 5 + _ ≤ _
               omega
             · exact tabs_below hT.out (hbw.alloc hbw.size _))
        rintro e w1 ⟨rfl, hb1⟩
        have hb2 : Below w.heap.size w w1 := (hbw.alloc hbw.size _).trans (hb1.mono (by have := hbw.size; simp; omega))
        clear hb1
        go_wp2_with fail
        first
          | (have _h : LowOf 3 0 := hr
             refine (full_again _ none 0 0 [] _ (⟨#[33]⟩ ++ mkS l) 0 ?_ (by decide) Reads.none_ (by simp) ?_ ?_).mono ?_
             · exact full_verb2 _ [33] l (by decide) HP.out (by omega)
             · rw [ByteArray.size_append, ByteArray.size_append, ByteArray.size_append]
               show 2 + 1 + _ + 1 ≤ _
               omega
             · exact tabs_below hT.out hb2
             rintro e w2 ⟨rfl, hb3⟩
             have hb4 : Below w.heap.size w w2 := hb2.trans (hb3.mono hb2.size)
             clear hb3
             go_wp2_with fail
             refine (awake_any _ (Lib.hid (tabs_below hT.out hb4))).mono ?_
             rintro e w3 ⟨rfl, hb5⟩
             go_wp2_with fail
             go_ret
             exact ⟨rfl, hb4.trans (hb5.mono hb4.size)⟩)
          | (have _h : LowOf 3 1 := hr
             refine (full_again _ none 0 0 [] _ (⟨#[116, 97, 103, 58, 121, 97, 109, 108, 46, 111, 114, 103, 44, 50, 48, 48, 50, 58]⟩ ++ mkS l) 0 ?_ (by decide) Reads.none_ (by simp) ?_ ?_).mono ?_
             · exact full_verb2 _ [116, 97, 103, 58, 121, 97, 109, 108, 46, 111, 114, 103, 44, 50, 48, 48, 50, 58] l (by decide) HP.out (by omega)
             · rw [ByteArray.size_append, ByteArray.size_append, ByteArray.size_append]
               show 2 + 18 + _ + 1 ≤ _
               omega
             · exact tabs_below hT.out hb2
             rintro e w2 ⟨rfl, hb3⟩
             have hb4 : Below w.heap.size w w2 := hb2.trans (hb3.mono hb2.size)
             clear hb3
             go_wp2_with fail
             refine (awake_any _ (Lib.hid (tabs_below hT.out hb4))).mono ?_
             rintro e w3 ⟨rfl, hb5⟩
             go_wp2_with fail
             go_ret
             exact ⟨rfl, hb4.trans (hb5.mono hb4.size)⟩)
          | (have _h : LowOf 3 2 := hr
             refine (awake_any _ (Lib.hid (tabs_below hT.out hb2))).mono ?_
             rintro e w3 ⟨rfl, hb5⟩
             go_wp2_with fail
             go_ret
             exact ⟨rfl, hb2.trans (hb5.mono hb2.size)⟩))

set_option maxRecDepth 100000 in
set_option maxHeartbeats 1000000 in
theorem prefix_out (A : Option Addr) (n c : Nat) (x : Int) (b : Bool) (w : World) (hN : ¬ (1 ≤ n ∧ n ≤ 10)) (hn : n ≤ 9223372036854775807) (hT : Hid (Lib.Utf8Tabs 3 4 w)) :
    Calls Tryd.prog 5 #[.int .i64 x, .slice A n c, .bool b] w fun e w' => e = .returned (.bool true) ∧ Below w.heap.size w w' := by
  go_enter Tryd.func5, Tryd.ntmps5
  go_wp2_with (first | (go_at_call 8; refine (awake_any _ hT).mono ?_; rintro e w' ⟨rfl, hb⟩))
  all_goals go_ret
  all_goals exact ⟨rfl, hb⟩
theorem lawPrefix_any (A : Option Addr) (n c : Nat) (zs : List Int) (x : Int) (b : Bool) (w : World) (hn : n ≤ 9223372036854775807) (hR : ReadsI w w.heap.size A n zs) (hT : Hid (Lib.Utf8Tabs 3 4 w)) :
    Calls Tryd.prog 5 #[.int .i64 x, .slice A n c, .bool b] w fun e w' => e = .returned (.bool true) ∧ Below w.heap.size w w' := by
  by_cases hN : 1 ≤ n ∧ n ≤ 10
  · cases b
    · exact prefix_no A n c zs x w hN hR hT
    · exact prefix_yes A n c zs x w hN hR hT
  · exact prefix_out A n c x b w hN hn hT
end Go.Proofs.YtabdhfpohodohaaDoor
