/-
  bosketlaw0's Low, Long and Scalar.
-/
import Derived.Test.YtabdhfpohodohaaDoorLawA
namespace Go.Proofs.YtabdhfpohodohaaDoor
open Go.RowKit

/-- what Low returns, behind a name. -/
def LowOf (n r : Int) : Prop := 0 ≤ r ∧ r < n

theorem low_val (x n : Int) (h0 : 0 < n) (h1 : n ≤ 4294967296) : LowOf n (wrap64 ((IntKind.u64.wrap x).tmod n)) := by
  have hx : 0 ≤ IntKind.u64.wrap x := by
    simp [IntKind.wrap, IntKind.signed, IntKind.bits]
    omega
  have a := Int.tmod_nonneg n hx
  have b := Int.tmod_lt_of_pos (IntKind.u64.wrap x) h0
  have e : wrap64 ((IntKind.u64.wrap x).tmod n) = (IntKind.u64.wrap x).tmod n := by
    unfold wrap64
    omega
  rw [e]; exact ⟨a, b⟩

set_option maxHeartbeats 1000000 in
theorem low_any (x n : Int) (w : World) (h0 : 0 < n) (h1 : n ≤ 4294967296) :
    Calls Tryd.prog 9 #[.int .i64 x, .int .i64 n] w fun e w' => ∃ r : Int, e = .returned (.int .i64 r) ∧ LowOf n r ∧ w = w' := by
  go_enter Tryd.func9, Tryd.ntmps9
  go_wp2
  go_ret
  exact ⟨_, rfl, low_val x n h0 h1, rfl⟩

/-- a code point that may be. -/
def ScalarOf (r : Int) : Prop := 0 ≤ r ∧ r < 1114112 ∧ ¬ (55296 ≤ r ∧ r ≤ 57343)
set_option maxHeartbeats 1000000 in
theorem scalar_any (x : Int) (w : World) :
    Calls Tryd.prog 15 #[.int .i64 x] w fun e w' => ∃ r : Int, e = .returned (.int .i32 r) ∧ ScalarOf r ∧ w = w' := by
  go_enter Tryd.func15, Tryd.ntmps15
  go_wp2_with (go_at_call 9; refine (low_any _ _ _ (by omega) (by omega)).mono ?_; rintro e w' ⟨r, rfl, ⟨hr0, hr1⟩, rfl⟩)
  all_goals go_ret
  all_goals exact ⟨_, rfl, by unfold ScalarOf; omega, rfl⟩

/-- whether texts have more than so many bytes together. -/
def longL : Int → List ByteArray → Bool
  | _, [] => false
  | n, d :: r => if n ≤ d.size then true else longL (n - d.size - 1) r
theorem longL_step (n : Int) (ss : List ByteArray) (k : Nat) (d : ByteArray) (hd : ss[k]? = some d) : longL n (ss.drop k) = if n ≤ d.size then true else longL (n - d.size - 1) (ss.drop (k + 1)) := by
  obtain ⟨hk, rfl⟩ := List.getElem?_eq_some_iff.1 hd
  rw [List.drop_eq_getElem_cons hk, longL]
theorem longL_le : ∀ (ss : List ByteArray) (n : Int), longL n ss = false → ∀ d ∈ ss, (d.size : Int) < n
  | [], _, _, _, hd => by cases hd
  | d :: r, n, h, e, he => by
    unfold longL at h
    split at h
    · cases h
    · rename_i h2
      rcases List.mem_cons.1 he with rfl | he
      · omega
      · have := longL_le r _ h e he
        omega

set_option maxRecDepth 100000 in
set_option maxHeartbeats 1000000 in
theorem lawLong_any (A : Option Addr) (n c : Nat) (ss : List ByteArray) (m : Int) (w : World) (hm : 0 ≤ m ∧ m ≤ 4294967296) (hn : n ≤ 140737488355328) (hr : ReadsS w w.heap.size A n ss) (hsz : Hid (∀ d ∈ ss, d.size ≤ 9223372036854775807)) :
    Calls Tryd.prog 7 #[.int .i64 m, .slice A n c] w fun e w' => e = .returned (.bool (longL m ss)) ∧ w = w' := by
  go_enter Tryd.func7, Tryd.ntmps7
  go_wp2
  go_loop [0, 5] (fun m' i => ∃ (k : Nat) (z : Int), k ≤ n ∧ z ≤ 4294967296 ∧ - 1 ≤ z ∧ m' = .int .i64 z ∧ i = .int .i64 k ∧ Hid (longL m ss = longL z (ss.drop k))) (fun _ i => n - (intOf i).toNat)
  case atStart => exact ⟨0, m, Nat.zero_le _, by omega, by omega, rfl, rfl, Lib.hid rfl⟩
  case round =>
    obtain ⟨k, z, hk, hz0, hz1, rfl, rfl, HR⟩ := hrel
    by_cases hlt : k < n
    · obtain ⟨ad, d, rfl, _, Hd, hc⟩ := ReadsS.at_ hr hlt
      have hd : d.size ≤ 9223372036854775807 := hsz.out d (List.mem_of_getElem? Hd.out)
      go_wp2
      · go_ret
        exact ⟨ret_bool (by rw [HR.out, longL_step z ss k d Hd.out, if_pos (by omega)]), rfl⟩
      · refine ⟨⟨k + 1, z - d.size - 1, by omega, by omega, by omega, by go_num, by go_num, Lib.hid ?_⟩, by simp [intOf]; omega⟩
        rw [HR.out, longL_step z ss k d Hd.out, if_neg (by omega)]
    · have HE : Hid (longL m ss = false) := Lib.hid (by rw [HR.out, List.drop_eq_nil_of_le (by rw [ReadsS.length hr]; omega)]; rfl)
      go_wp2
      go_ret
      exact ⟨ret_bool HE.out.symm, rfl⟩
end Go.Proofs.YtabdhfpohodohaaDoor
