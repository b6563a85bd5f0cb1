/-
  strconv.ParseUint of two hex digits, base 16, 8 bits.
-/
import Derived.Test.YtabdhfpohodohaaDoorHandC
import Derived.Lib.SlBytesConst
namespace Go.Proofs.YtabdhfpohodohaaDoor
open Go.RowKit

/-- what a hex digit tells. -/
def hexV (c : Int) : Int := if c ≤ 57 then c - 48 else if c ≤ 70 then c - 55 else c - 87

theorem lower_tab : ∀ n : Nat, n < 256 → (65 ≤ n ∧ n ≤ 70 → bits .or .u8 (n : Int) 32 = n + 32) ∧ (97 ≤ n ∧ n ≤ 102 → bits .or .u8 (n : Int) 32 = n) := by decide +kernel
theorem lower_up (c : Int) (h : 65 ≤ c ∧ c ≤ 70) (w : World) : Calls Tryd.prog 52 #[.int .u8 c] w fun e w' => e = .returned (.int .u8 (c + 32)) ∧ w = w' := by
  obtain ⟨n, rfl⟩ := Int.eq_ofNat_of_zero_le (by omega : 0 ≤ c)
  have hb := (lower_tab n (by omega)).1 (by omega)
  go_enter Tryd.func52, Tryd.ntmps52
  go_wp2
  go_ret
  exact ⟨rfl, rfl⟩
theorem lower_low (c : Int) (h : 97 ≤ c ∧ c ≤ 102) (w : World) : Calls Tryd.prog 52 #[.int .u8 c] w fun e w' => e = .returned (.int .u8 c) ∧ w = w' := by
  obtain ⟨n, rfl⟩ := Int.eq_ofNat_of_zero_le (by omega : 0 ≤ c)
  have hb := (lower_tab n (by omega)).2 (by omega)
  go_enter Tryd.func52, Tryd.ntmps52
  go_wp2
  go_ret
  exact ⟨rfl, rfl⟩

theorem u64_eq {a b : Int} (h : a = b) : Value.int .u64 a = .int .u64 b := by rw [h]
theorem hex_ways {c : Int} (h : hexZ c = true) : (48 ≤ c ∧ c ≤ 57) ∨ (97 ≤ c ∧ c ≤ 102) ∨ (65 ≤ c ∧ c ≤ 70) := by
  simp [hexZ] at h; omega
theorem hexV_le {c : Int} (h : (48 ≤ c ∧ c ≤ 57) ∨ (97 ≤ c ∧ c ≤ 102) ∨ (65 ≤ c ∧ c ≤ 70)) : 0 ≤ hexV c ∧ hexV c ≤ 15 := by
  unfold hexV
  split
  · omega
  · split <;> omega

/-- '[]byte(s)': a new row of the bytes. -/
theorem conv_bytes (w : World) (s : ByteArray) : ∃ (w1 : World) (cap : Nat), (convert 9 45 (.string s)).run Tryd.prog w = .ok (.slice (some ⟨w.heap.size, 0, none⟩) s.size cap) w1 ∧ Below w.heap.size w w1 ∧ w.heap.size < w1.heap.size ∧
    ∀ k (h : k < s.size), w1.cell? ⟨w.heap.size, k, none⟩ = some (.int .u8 (s[k].toNat : Int)) := by
  refine ⟨_, _, run_bytes_of_string w 9 45 5 s Tryd.underlying9 Tryd.underlying45 Tryd.underlying5, ?_, ?_, fun k h => ?_⟩
  · exact ((Below.refl _ w).drew).alloc (Nat.le_refl _) _
  · simp
  · rw [show w.heap.size = w.drew.heap.size from rfl, World.cell?_alloc_mark]
    exact bytesRow_at s _ k h

set_option maxRecDepth 100000 in
set_option maxHeartbeats 1000000 in
theorem parse_in (c0 c1 : UInt8) (w : World) (h0 : Hid (hexZ (c0.toNat : Int) = true)) (h1 : Hid (hexZ (c1.toNat : Int) = true)) :
    Calls Tryd.prog 46 #[.string ⟨#[c0, c1]⟩, .int .i64 16, .int .i64 8] w fun e w' => e = .returned (.tuple #[.int .u64 (hexV (c0.toNat : Int) * 16 + hexV (c1.toNat : Int)), .nilIface]) ∧ Below w.heap.size w w' := by
  obtain ⟨w1, cap, hcv, hb, hlt1, hcell⟩ := conv_bytes w ⟨#[c0, c1]⟩
  have hc0 : w1.cell? ⟨w.heap.size, 0, none⟩ = some (.int .u8 (c0.toNat : Int)) := hcell 0 (Nat.zero_lt_succ 1)
  have hc1 : w1.cell? ⟨w.heap.size, 1, none⟩ = some (.int .u8 (c1.toNat : Int)) := hcell 1 (Nat.lt_succ_self 1)
  clear hcell
  have e0 := hex_ways h0.out
  have e1 := hex_ways h1.out
  clear h0 h1
  generalize (c0.toNat : Int) = x at *
  generalize (c1.toNat : Int) = y at *
  have bx : 0 ≤ hexV x ∧ hexV x ≤ 15 := hexV_le e0
  have E0 := Lib.hid e0
  have E1 := Lib.hid e1
  clear e0 e1
  go_enter Tryd.func46, Tryd.ntmps46
  go_wp2
  go_loop [12, 13, 101] (fun u n i => (i = .int .i64 (0 : Nat) ∧ u = .bool false ∧ n = .int .u64 0) ∨ (i = .int .i64 (1 : Nat) ∧ u = .bool false ∧ n = .int .u64 (hexV x)) ∨ (i = .int .i64 (2 : Nat) ∧ u = .bool false ∧ n = .int .u64 (hexV x * 16 + hexV y))) (fun _ _ i => 2 - (intOf i).toNat)
  case atStart => exact .inl ⟨rfl, rfl, rfl⟩
  case round =>
    rcases hrel with ⟨rfl, rfl, rfl⟩ | ⟨rfl, rfl, rfl⟩ | ⟨rfl, rfl, rfl⟩
    · rcases E0.out with ⟨a, b⟩ | ⟨a, b⟩ | ⟨a, b⟩
      · go_wp2
        refine ⟨.inr (.inl ⟨by go_num, rfl, u64_eq ?_⟩), by simp [intOf]⟩
        have : hexV x = x - 48 := by unfold hexV; rw [if_pos (by omega)]
        omega
      · go_wp2_with (go_at_call 52; refine (lower_low _ ⟨a, b⟩ _).mono ?_; rintro e w' ⟨rfl, rfl⟩)
        refine ⟨.inr (.inl ⟨by go_num, rfl, u64_eq ?_⟩), by simp [intOf]⟩
        unfold hexV; rw [if_neg (by omega), if_neg (by omega)]; omega
      · go_wp2_with (go_at_call 52; refine (lower_up _ ⟨a, b⟩ _).mono ?_; rintro e w' ⟨rfl, rfl⟩)
        refine ⟨.inr (.inl ⟨by go_num, rfl, u64_eq ?_⟩), by simp [intOf]⟩
        unfold hexV; rw [if_neg (by omega), if_pos (by omega)]; omega
    · generalize hexV x = v at *
      have by_ := Lib.hid (hexV_le E1.out)
      rcases E1.out with ⟨a, b⟩ | ⟨a, b⟩ | ⟨a, b⟩
      · have HY : Hid (hexV y = y - 48) := Lib.hid (by unfold hexV; rw [if_pos (by omega)])
        go_wp2
        exact ⟨.inr (.inr ⟨by go_num, rfl, u64_eq (by have := HY.out; omega)⟩), by simp [intOf]⟩
      · have HY : Hid (hexV y = y - 87) := Lib.hid (by unfold hexV; rw [if_neg (by omega), if_neg (by omega)])
        go_wp2_with (go_at_call 52; refine (lower_low _ ⟨a, b⟩ _).mono ?_; rintro e w' ⟨rfl, rfl⟩)
        exact ⟨.inr (.inr ⟨by go_num, rfl, u64_eq (by have := HY.out; omega)⟩), by simp [intOf]⟩
      · have HY : Hid (hexV y = y - 55) := Lib.hid (by unfold hexV; rw [if_neg (by omega), if_pos (by omega)])
        go_wp2_with (go_at_call 52; refine (lower_up _ ⟨a, b⟩ _).mono ?_; rintro e w' ⟨rfl, rfl⟩)
        exact ⟨.inr (.inr ⟨by go_num, rfl, u64_eq (by have := HY.out; omega)⟩), by simp [intOf]⟩
    · go_wp2
      go_ret2
      exact ⟨rfl, hb⟩

set_option maxHeartbeats 400000 in
theorem parse_any (c0 c1 : UInt8) (w : World) (h0 : Hid (hexZ (c0.toNat : Int) = true)) (h1 : Hid (hexZ (c1.toNat : Int) = true)) :
    Calls Tryd.prog 34 #[.string ⟨#[c0, c1]⟩, .int .i64 16, .int .i64 8] w fun e w' => e = .returned (.tuple #[.int .u64 (hexV (c0.toNat : Int) * 16 + hexV (c1.toNat : Int)), .nilIface]) ∧ Below w.heap.size w w' := by
  go_enter Tryd.func34, Tryd.ntmps34
  go_wp2_with (go_at_call 46; refine (parse_in _ _ _ h0 h1).mono ?_; rintro e w' ⟨rfl, hb⟩)
  go_ret2
  exact ⟨rfl, hb⟩
end Go.Proofs.YtabdhfpohodohaaDoor
