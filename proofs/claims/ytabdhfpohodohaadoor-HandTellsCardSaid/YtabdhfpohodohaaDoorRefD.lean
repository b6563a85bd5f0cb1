/-
  bosketref1.One: what it computes ('oneS').
-/
import Derived.Test.YtabdhfpohodohaaDoorRefC
import Derived.Test.YtabdhfpohodohaaDoorOne
import Derived.Laws.BitsAllLaws
import Derived.Laws.BitsLemmas
namespace Go.Proofs.YtabdhfpohodohaaDoor
open Go.RowKit

theorem and192_tab : ∀ n : Nat, n < 256 → bits .and .u8 (n : Int) 192 = ((n / 64 * 64 : Nat) : Int) := by decide +kernel
theorem and63_tab : ∀ n : Nat, n < 256 → bits .and .u8 (n : Int) 63 = ((n % 64 : Nat) : Int) := by decide +kernel
theorem and31_tab : ∀ n : Nat, n < 256 → bits .and .i32 (n : Int) 31 = ((n % 32 : Nat) : Int) := by decide +kernel
theorem and15_tab : ∀ n : Nat, n < 256 → bits .and .i32 (n : Int) 15 = ((n % 16 : Nat) : Int) := by decide +kernel
theorem and7_tab : ∀ n : Nat, n < 256 → bits .and .i32 (n : Int) 7 = ((n % 8 : Nat) : Int) := by decide +kernel
theorem named {f : Int} {v m : Nat} (h : f = (v : Int)) (hm : v < m) : ∃ a : Int, f = a ∧ 0 ≤ a ∧ a < m ∧ Hid (a = (v : Int)) := ⟨v, h, by omega, by omega, rfl⟩
theorem i32_eq {a b : Int} (h : a = b) : Value.int .i32 a = .int .i32 b := by rw [h]
theorem ret_one {v : Int × Int} {r k : Int} (h : v = (r, k)) : Ending.returned (.tuple #[.int .i32 r, .int .i64 k]) = Ending.returned (.tuple #[.int .i32 v.1, .int .i64 v.2]) := by rw [h]

set_option maxRecDepth 10000 in
set_option maxHeartbeats 2000000 in
theorem one_in2 (s : ByteArray) (k : Nat) (w : World) (hs : s.size ≤ 140737488355327) (hk : k + 1 < s.size) (h1 : 194 ≤ s[k].toNat) (h2 : s[k].toNat < 224) :
    Calls Tryd.prog 39 #[.string s, .int .i64 k] w fun e w' => e = .returned (.tuple #[.int .i32 (oneS s k).1, .int .i64 (oneS s k).2]) ∧ w = w' := by
  have HO := Lib.hid (one_two s k hk h1 h2)
  obtain ⟨a, ha, a0, a1, HA⟩ := named (and31_tab _ s[k].toNat_lt) (m := 32) (Nat.mod_lt _ (by decide))
  obtain ⟨b1, hb1, b10, b11, HB1⟩ := named (and192_tab _ s[k + 1].toNat_lt) (m := 256) (by have := s[k + 1].toNat_lt; omega)
  obtain ⟨c1, hc1, c10, c11, HC1⟩ := named (and63_tab _ s[k + 1].toNat_lt) (m := 64) (Nat.mod_lt _ (by decide))
  have h1' : (194 : Int) ≤ (s[k].toNat : Int) := by omega
  have h2' : (s[k].toNat : Int) < 224 := by omega
  cases hx1 : (b1 != 128)
  · -- a good one
    obtain ⟨R, HR⟩ : ∃ R : Int, Hid (R = (a * 64 + c1)) := ⟨_, rfl⟩
    have HV : Hid (oneS s k = (R, 2)) := Lib.hid (by
      have e0 := HR.out
      have e1 := HA.out
      have f1 := HB1.out
      have g1 := HC1.out
      have q1 : s[k + 1].toNat / 64 = 2 := by simp at hx1; omega
      rw [HO.out, if_pos q1]
      refine Prod.ext ?_ rfl
      show ((_ : Nat) : Int) = R
      omega)
    clear HO
    go_enter Tryd.func39, Tryd.ntmps39
    go_wp2
    go_loop [9, 10] (fun r i => (i = .int .i64 (1 : Nat) ∧ r = .int .i32 a) ∨ (i = .int .i64 (2 : Nat) ∧ r = .int .i32 R)) (fun _ i => 2 - (intOf i).toNat)
    case atStart => exact .inl ⟨rfl, rfl⟩
    case round =>
      rcases hrel with ⟨rfl, rfl⟩ | ⟨rfl, rfl⟩
      · go_wp2
        exact ⟨.inr (⟨by go_num, i32_eq (by have := HR.out; omega)⟩), by simp [intOf]⟩
      · have r0 : 128 ≤ R ∧ R < 2048 := by have := HR.out; have := HA.out; omega
        go_wp2
        go_ret2
        exact ⟨ret_one HV.out, rfl⟩
  · have HV : Hid (oneS s k = (0, 0)) := Lib.hid (by
      have f1 := HB1.out
      rw [HO.out, if_neg (by simp at hx1; omega)])
    clear HO
    go_enter Tryd.func39, Tryd.ntmps39
    go_wp2
    go_loop [9, 10] (fun r i => (i = .int .i64 (1 : Nat) ∧ r = .int .i32 a)) (fun _ i => 2 - (intOf i).toNat)
    case atStart => exact ⟨rfl, rfl⟩
    case round =>
      obtain ⟨rfl, rfl⟩ := hrel
      go_wp2
      go_ret2
      exact ⟨ret_one HV.out, rfl⟩

set_option maxRecDepth 10000 in
set_option maxHeartbeats 2000000 in
theorem one_in3 (s : ByteArray) (k : Nat) (w : World) (hs : s.size ≤ 140737488355327) (hk : k + 2 < s.size) (h1 : 224 ≤ s[k].toNat) (h2 : s[k].toNat < 240) :
    Calls Tryd.prog 39 #[.string s, .int .i64 k] w fun e w' => e = .returned (.tuple #[.int .i32 (oneS s k).1, .int .i64 (oneS s k).2]) ∧ w = w' := by
  have HO := Lib.hid (one_three s k hk h1 h2)
  obtain ⟨a, ha, a0, a1, HA⟩ := named (and15_tab _ s[k].toNat_lt) (m := 16) (Nat.mod_lt _ (by decide))
  obtain ⟨b1, hb1, b10, b11, HB1⟩ := named (and192_tab _ s[k + 1].toNat_lt) (m := 256) (by have := s[k + 1].toNat_lt; omega)
  obtain ⟨c1, hc1, c10, c11, HC1⟩ := named (and63_tab _ s[k + 1].toNat_lt) (m := 64) (Nat.mod_lt _ (by decide))
  obtain ⟨b2, hb2, b20, b21, HB2⟩ := named (and192_tab _ s[k + 2].toNat_lt) (m := 256) (by have := s[k + 2].toNat_lt; omega)
  obtain ⟨c2, hc2, c20, c21, HC2⟩ := named (and63_tab _ s[k + 2].toNat_lt) (m := 64) (Nat.mod_lt _ (by decide))
  have h1' : (224 : Int) ≤ (s[k].toNat : Int) := by omega
  have h2' : (s[k].toNat : Int) < 240 := by omega
  cases hx1 : (b1 != 128)
  · -- a good one
    cases hx2 : (b2 != 128)
    · -- a good one
      obtain ⟨R, HR⟩ : ∃ R : Int, Hid (R = ((a * 64 + c1) * 64 + c2)) := ⟨_, rfl⟩
      have HV : Hid (oneS s k = if 2048 ≤ R ∧ ¬ (55296 ≤ R ∧ R ≤ 57343) then (R, 3) else (0, 0)) := Lib.hid (by
        have e0 := HR.out
        have e1 := HA.out
        have f1 := HB1.out
        have g1 := HC1.out
        have q1 : s[k + 1].toNat / 64 = 2 := by simp at hx1; omega
        have f2 := HB2.out
        have g2 := HC2.out
        have q2 : s[k + 2].toNat / 64 = 2 := by simp at hx2; omega
        rw [HO.out]
        split <;> split <;> first | (refine Prod.ext ?_ rfl; show ((_ : Nat) : Int) = R; omega) | rfl | (exfalso; omega))
      clear HO
      go_enter Tryd.func39, Tryd.ntmps39
      go_wp2
      go_loop [9, 10] (fun r i => (i = .int .i64 (1 : Nat) ∧ r = .int .i32 a) ∨ (i = .int .i64 (2 : Nat) ∧ r = .int .i32 (a * 64 + c1)) ∨ (i = .int .i64 (3 : Nat) ∧ r = .int .i32 R)) (fun _ i => 3 - (intOf i).toNat)
      case atStart => exact .inl ⟨rfl, rfl⟩
      case round =>
        rcases hrel with ⟨rfl, rfl⟩ | ⟨rfl, rfl⟩ | ⟨rfl, rfl⟩
        · go_wp2
          exact ⟨.inr (.inl ⟨by go_num, rfl⟩), by simp [intOf]⟩
        · go_wp2
          exact ⟨.inr (.inr (⟨by go_num, i32_eq (by have := HR.out; omega)⟩)), by simp [intOf]⟩
        · have r0 : 0 ≤ R ∧ R ≤ 2147483647 := by have := HR.out; omega
          have r9 : R ≤ 65535 := by have := HR.out; omega
          rcases (show (R < 2048) ∨ (2048 ≤ R ∧ R < 55296) ∨ (55296 ≤ R ∧ R ≤ 57343) ∨ (57344 ≤ R ∧ R ≤ 65535) from by omega) with hy | hy | hy | hy
          · go_wp2
            go_ret2
            exact ⟨ret_one (by rw [HV.out, if_neg (by omega)]), rfl⟩
          · go_wp2
            go_ret2
            exact ⟨ret_one (by rw [HV.out, if_pos (by omega)]), rfl⟩
          · go_wp2
            go_ret2
            exact ⟨ret_one (by rw [HV.out, if_neg (by omega)]), rfl⟩
          · go_wp2
            go_ret2
            exact ⟨ret_one (by rw [HV.out, if_pos (by omega)]), rfl⟩
    · have HV : Hid (oneS s k = (0, 0)) := Lib.hid (by
        have f2 := HB2.out
        rw [HO.out, if_neg (by simp at hx2; omega)])
      clear HO
      go_enter Tryd.func39, Tryd.ntmps39
      go_wp2
      go_loop [9, 10] (fun r i => (i = .int .i64 (1 : Nat) ∧ r = .int .i32 a) ∨ (i = .int .i64 (2 : Nat) ∧ r = .int .i32 (a * 64 + c1))) (fun _ i => 3 - (intOf i).toNat)
      case atStart => exact .inl ⟨rfl, rfl⟩
      case round =>
        rcases hrel with ⟨rfl, rfl⟩ | ⟨rfl, rfl⟩
        · go_wp2
          exact ⟨.inr (⟨by go_num, rfl⟩), by simp [intOf]⟩
        · go_wp2
          go_ret2
          exact ⟨ret_one HV.out, rfl⟩
  · have HV : Hid (oneS s k = (0, 0)) := Lib.hid (by
      have f1 := HB1.out
      rw [HO.out, if_neg (by simp at hx1; omega)])
    clear HO
    go_enter Tryd.func39, Tryd.ntmps39
    go_wp2
    go_loop [9, 10] (fun r i => (i = .int .i64 (1 : Nat) ∧ r = .int .i32 a)) (fun _ i => 3 - (intOf i).toNat)
    case atStart => exact ⟨rfl, rfl⟩
    case round =>
      obtain ⟨rfl, rfl⟩ := hrel
      go_wp2
      go_ret2
      exact ⟨ret_one HV.out, rfl⟩

set_option maxRecDepth 10000 in
set_option maxHeartbeats 2000000 in
theorem one_in4 (s : ByteArray) (k : Nat) (w : World) (hs : s.size ≤ 140737488355327) (hk : k + 3 < s.size) (h1 : 240 ≤ s[k].toNat) (h2 : s[k].toNat < 245) :
    Calls Tryd.prog 39 #[.string s, .int .i64 k] w fun e w' => e = .returned (.tuple #[.int .i32 (oneS s k).1, .int .i64 (oneS s k).2]) ∧ w = w' := by
  have HO := Lib.hid (one_four s k hk h1 h2)
  obtain ⟨a, ha, a0, a1, HA⟩ := named (and7_tab _ s[k].toNat_lt) (m := 8) (Nat.mod_lt _ (by decide))
  obtain ⟨b1, hb1, b10, b11, HB1⟩ := named (and192_tab _ s[k + 1].toNat_lt) (m := 256) (by have := s[k + 1].toNat_lt; omega)
  obtain ⟨c1, hc1, c10, c11, HC1⟩ := named (and63_tab _ s[k + 1].toNat_lt) (m := 64) (Nat.mod_lt _ (by decide))
  obtain ⟨b2, hb2, b20, b21, HB2⟩ := named (and192_tab _ s[k + 2].toNat_lt) (m := 256) (by have := s[k + 2].toNat_lt; omega)
  obtain ⟨c2, hc2, c20, c21, HC2⟩ := named (and63_tab _ s[k + 2].toNat_lt) (m := 64) (Nat.mod_lt _ (by decide))
  obtain ⟨b3, hb3, b30, b31, HB3⟩ := named (and192_tab _ s[k + 3].toNat_lt) (m := 256) (by have := s[k + 3].toNat_lt; omega)
  obtain ⟨c3, hc3, c30, c31, HC3⟩ := named (and63_tab _ s[k + 3].toNat_lt) (m := 64) (Nat.mod_lt _ (by decide))
  have h1' : (240 : Int) ≤ (s[k].toNat : Int) := by omega
  have h2' : (s[k].toNat : Int) < 245 := by omega
  cases hx1 : (b1 != 128)
  · -- a good one
    cases hx2 : (b2 != 128)
    · -- a good one
      cases hx3 : (b3 != 128)
      · -- a good one
        obtain ⟨R, HR⟩ : ∃ R : Int, Hid (R = (((a * 64 + c1) * 64 + c2) * 64 + c3)) := ⟨_, rfl⟩
        have HV : Hid (oneS s k = if 65536 ≤ R ∧ R ≤ 1114111 then (R, 4) else (0, 0)) := Lib.hid (by
          have e0 := HR.out
          have e1 := HA.out
          have f1 := HB1.out
          have g1 := HC1.out
          have q1 : s[k + 1].toNat / 64 = 2 := by simp at hx1; omega
          have f2 := HB2.out
          have g2 := HC2.out
          have q2 : s[k + 2].toNat / 64 = 2 := by simp at hx2; omega
          have f3 := HB3.out
          have g3 := HC3.out
          have q3 : s[k + 3].toNat / 64 = 2 := by simp at hx3; omega
          rw [HO.out]
          split <;> split <;> first | (refine Prod.ext ?_ rfl; show ((_ : Nat) : Int) = R; omega) | rfl | (exfalso; omega))
        clear HO
        go_enter Tryd.func39, Tryd.ntmps39
        go_wp2
        go_loop [9, 10] (fun r i => (i = .int .i64 (1 : Nat) ∧ r = .int .i32 a) ∨ (i = .int .i64 (2 : Nat) ∧ r = .int .i32 (a * 64 + c1)) ∨ (i = .int .i64 (3 : Nat) ∧ r = .int .i32 ((a * 64 + c1) * 64 + c2)) ∨ (i = .int .i64 (4 : Nat) ∧ r = .int .i32 R)) (fun _ i => 4 - (intOf i).toNat)
        case atStart => exact .inl ⟨rfl, rfl⟩
        case round =>
          rcases hrel with ⟨rfl, rfl⟩ | ⟨rfl, rfl⟩ | ⟨rfl, rfl⟩ | ⟨rfl, rfl⟩
          · go_wp2
            exact ⟨.inr (.inl ⟨by go_num, rfl⟩), by simp [intOf]⟩
          · go_wp2
            exact ⟨.inr (.inr (.inl ⟨by go_num, rfl⟩)), by simp [intOf]⟩
          · go_wp2
            exact ⟨.inr (.inr (.inr (⟨by go_num, i32_eq (by have := HR.out; omega)⟩))), by simp [intOf]⟩
          · have r0 : 0 ≤ R ∧ R ≤ 2147483647 := by have := HR.out; omega
            rcases (show (R < 65536) ∨ (65536 ≤ R ∧ R ≤ 1114111) ∨ (1114112 ≤ R) from by omega) with hy | hy | hy
            · go_wp2
              go_ret2
              exact ⟨ret_one (by rw [HV.out, if_neg (by omega)]), rfl⟩
            · go_wp2
              go_ret2
              exact ⟨ret_one (by rw [HV.out, if_pos (by omega)]), rfl⟩
            · go_wp2
              go_ret2
              exact ⟨ret_one (by rw [HV.out, if_neg (by omega)]), rfl⟩
      · have HV : Hid (oneS s k = (0, 0)) := Lib.hid (by
          have f3 := HB3.out
          rw [HO.out, if_neg (by simp at hx3; omega)])
        clear HO
        go_enter Tryd.func39, Tryd.ntmps39
        go_wp2
        go_loop [9, 10] (fun r i => (i = .int .i64 (1 : Nat) ∧ r = .int .i32 a) ∨ (i = .int .i64 (2 : Nat) ∧ r = .int .i32 (a * 64 + c1)) ∨ (i = .int .i64 (3 : Nat) ∧ r = .int .i32 ((a * 64 + c1) * 64 + c2))) (fun _ i => 4 - (intOf i).toNat)
        case atStart => exact .inl ⟨rfl, rfl⟩
        case round =>
          rcases hrel with ⟨rfl, rfl⟩ | ⟨rfl, rfl⟩ | ⟨rfl, rfl⟩
          · go_wp2
            exact ⟨.inr (.inl ⟨by go_num, rfl⟩), by simp [intOf]⟩
          · go_wp2
            exact ⟨.inr (.inr (⟨by go_num, rfl⟩)), by simp [intOf]⟩
          · go_wp2
            go_ret2
            exact ⟨ret_one HV.out, rfl⟩
    · have HV : Hid (oneS s k = (0, 0)) := Lib.hid (by
        have f2 := HB2.out
        rw [HO.out, if_neg (by simp at hx2; omega)])
      clear HO
      go_enter Tryd.func39, Tryd.ntmps39
      go_wp2
      go_loop [9, 10] (fun r i => (i = .int .i64 (1 : Nat) ∧ r = .int .i32 a) ∨ (i = .int .i64 (2 : Nat) ∧ r = .int .i32 (a * 64 + c1))) (fun _ i => 4 - (intOf i).toNat)
      case atStart => exact .inl ⟨rfl, rfl⟩
      case round =>
        rcases hrel with ⟨rfl, rfl⟩ | ⟨rfl, rfl⟩
        · go_wp2
          exact ⟨.inr (⟨by go_num, rfl⟩), by simp [intOf]⟩
        · go_wp2
          go_ret2
          exact ⟨ret_one HV.out, rfl⟩
  · have HV : Hid (oneS s k = (0, 0)) := Lib.hid (by
      have f1 := HB1.out
      rw [HO.out, if_neg (by simp at hx1; omega)])
    clear HO
    go_enter Tryd.func39, Tryd.ntmps39
    go_wp2
    go_loop [9, 10] (fun r i => (i = .int .i64 (1 : Nat) ∧ r = .int .i32 a)) (fun _ i => 4 - (intOf i).toNat)
    case atStart => exact ⟨rfl, rfl⟩
    case round =>
      obtain ⟨rfl, rfl⟩ := hrel
      go_wp2
      go_ret2
      exact ⟨ret_one HV.out, rfl⟩

set_option maxRecDepth 10000 in
set_option maxHeartbeats 1000000 in
theorem one_any (s : ByteArray) (k : Nat) (w : World) (hs : s.size ≤ 140737488355327) (hk : k < s.size) :
    Calls Tryd.prog 39 #[.string s, .int .i64 k] w fun e w' => e = .returned (.tuple #[.int .i32 (oneS s k).1, .int .i64 (oneS s k).2]) ∧ w = w' := by
  by_cases h128 : (s[k].toNat : Int) < 128
  · have HV := Lib.hid (one_ascii s k hk (by omega))
    go_enter Tryd.func39, Tryd.ntmps39
    go_wp2
    go_ret2
    exact ⟨ret_one HV.out, rfl⟩
  · by_cases ho : (s[k].toNat : Int) < 194 ∨ 245 ≤ (s[k].toNat : Int)
    · have HV := Lib.hid (one_out s k hk (by omega) (by omega))
      rcases ho with ho | ho
      · go_enter Tryd.func39, Tryd.ntmps39
        go_wp2
        go_ret2
        exact ⟨ret_one HV.out, rfl⟩
      · go_enter Tryd.func39, Tryd.ntmps39
        go_wp2
        go_ret2
        exact ⟨ret_one HV.out, rfl⟩
    · rcases (show (s[k].toNat < 224) ∨ (224 ≤ s[k].toNat ∧ s[k].toNat < 240) ∨ (240 ≤ s[k].toNat) from by omega) with h | h | h
      · by_cases hn : k + 1 < s.size
        · exact one_in2 s k w hs hn (by omega) (by omega)
        · have HV := Lib.hid (one_short s k 2 hk (by omega) (by omega))
          have h1' : (194 : Int) ≤ (s[k].toNat : Int) := by omega
          have h2' : (s[k].toNat : Int) < 224 := by omega
          clear ho h
          go_enter Tryd.func39, Tryd.ntmps39
          go_wp2
          go_ret2
          exact ⟨ret_one HV.out, rfl⟩
      · by_cases hn : k + 2 < s.size
        · exact one_in3 s k w hs hn (by omega) (by omega)
        · have HV := Lib.hid (one_short s k 3 hk (by omega) (by omega))
          have h1' : (224 : Int) ≤ (s[k].toNat : Int) := by omega
          have h2' : (s[k].toNat : Int) < 240 := by omega
          clear ho h
          go_enter Tryd.func39, Tryd.ntmps39
          go_wp2
          go_ret2
          exact ⟨ret_one HV.out, rfl⟩
      · by_cases hn : k + 3 < s.size
        · exact one_in4 s k w hs hn (by omega) (by omega)
        · have HV := Lib.hid (one_short s k 4 hk (by omega) (by omega))
          have h1' : (240 : Int) ≤ (s[k].toNat : Int) := by omega
          have h2' : (s[k].toNat : Int) < 245 := by omega
          clear ho h
          go_enter Tryd.func39, Tryd.ntmps39
          go_wp2
          go_ret2
          exact ⟨ret_one HV.out, rfl⟩
end Go.Proofs.YtabdhfpohodohaaDoor
