/-
  bosketlaw9.awake returns true.
-/
import Derived.Test.YtabdhfpohodohaaDoorHandG
namespace Go.Proofs.YtabdhfpohodohaaDoor
open Go.RowKit

theorem val_a : fullS [] ⟨#[33, 33, 115, 116, 114]⟩ = (⟨#[116, 97, 103, 58, 121, 97, 109, 108, 46, 111, 114, 103, 44, 50, 48, 48, 50, 58, 115, 116, 114]⟩, 0) := by decide +kernel
theorem val_b : fullS [⟨#[37, 84, 65, 71, 32, 33, 101, 33, 32, 120, 58]⟩] ⟨#[33, 101, 33, 97, 37, 50, 49]⟩ = (⟨#[120, 58, 97, 33]⟩, 0) := by decide +kernel
theorem val_c : fullS [] ⟨#[33, 101, 33, 97]⟩ = (⟨#[]⟩, 8) := by decide +kernel
theorem val_d : sizeZ ⟨#[33, 97, 32, 98]⟩ 0 = 2 := by decide +kernel
theorem val_e : sizeZ ⟨#[97]⟩ 0 = 0 := by decide +kernel

theorem full_at (A : Option Addr) (n c : Nat) (ss : List ByteArray) (tag : ByteArray) (w : World) (r : ByteArray) (k : Int) (h : fullS ss tag = (r, k)) (hN : n ≤ 140737488355328) (hR : ReadsS w w.heap.size A n ss) (hsz : ∀ d ∈ ss, d.size ≤ 140737488355328) (hs : tag.size ≤ 140737488355327)
    (hT : Hid (Lib.Utf8Tabs 3 4 w)) :
    Calls Tryd.prog 10 #[.slice A n c, .string tag] w fun e w' => e = .returned (.tuple #[.string r, .int .i64 k]) ∧ Below w.heap.size w w' :=
  (full_any A n c ss tag w hN hR (Lib.hid hsz) hs hT).mono fun _ _ ⟨he, hb⟩ => ⟨by rw [he, h], hb⟩
theorem long_str : (⟨#[116, 97, 103, 58, 121, 97, 109, 108, 46, 111, 114, 103, 44, 50, 48, 48, 50, 58]⟩ ++ ⟨#[115, 116, 114]⟩ : ByteArray) = ⟨#[116, 97, 103, 58, 121, 97, 109, 108, 46, 111, 114, 103, 44, 50, 48, 48, 50, 58, 115, 116, 114]⟩ := by decide +kernel
theorem long_at (s : ByteArray) (w : World) (hs : s = ⟨#[115, 116, 114]⟩) :
    Calls Tryd.prog 14 #[.string s] w fun e w' => e = .returned (.string ⟨#[116, 97, 103, 58, 121, 97, 109, 108, 46, 111, 114, 103, 44, 50, 48, 48, 50, 58, 115, 116, 114]⟩) ∧ w = w' :=
  (long_any s w (by rw [hs]; decide)).mono fun _ _ ⟨he, hw⟩ => ⟨by rw [he, hs, long_str], hw⟩
theorem size_at (s : ByteArray) (a : Int) (w : World) (n : Nat) (h : sizeZ s a = n) (hs : s.size ≤ 140737488355328) :
    Calls Tryd.prog 12 #[.string s, .int .i64 a] w fun e w' => e = .returned (.int .i64 n) ∧ w = w' :=
  (size_any s a w hs).mono fun _ _ ⟨m, he, hm, _, hw⟩ => ⟨by rw [he, hm.out, h], hw⟩
theorem reads_one (w : World) (s : ByteArray) (t : TypeId) : ReadsS (w.alloc (.cells #[.string s] t)) (w.alloc (.cells #[.string s] t)).heap.size (some ⟨w.heap.size, 0, none⟩) 1 [s] := by
  refine ⟨rfl, fun _ => ⟨_, rfl, by simp, fun j u hj => ?_⟩⟩
  match j, hj with
  | 0, hj => simp at hj; subst hj; simp [Addr.add]

set_option maxRecDepth 100000 in
set_option maxHeartbeats 1000000 in
theorem awake_any (w : World) (hT : Hid (Lib.Utf8Tabs 3 4 w)) :
    Calls Tryd.prog 8 #[] w fun e w' => e = .returned (.bool true) ∧ Below w.heap.size w w' := by
  go_enter Tryd.func8, Tryd.ntmps8
  go_wp2_with fail
  refine (full_at _ _ _ [] _ _ _ _ val_a (by omega) Reads.none_ (by simp) (by decide) hT).mono ?_
  rintro e w1 ⟨rfl, hb1⟩
  go_wp2_with fail
  refine (full_at _ _ _ _ _ _ _ _ val_b (by omega) (reads_one _ _ _) (by simp; decide) (by decide) (Lib.hid (tabs_below (tabs_below hT.out hb1) ((Below.refl _ _).alloc (Nat.le_refl _) _)))).mono ?_
  rintro e w2 ⟨rfl, hb2⟩
  have hb12 : Below w.heap.size w w2 := (hb1.alloc hb1.size _).trans (hb2.mono (by have := hb1.size; simp; omega))
  clear hb1 hb2
  go_wp2_with fail
  refine (full_at _ _ _ [] _ _ _ _ val_c (by omega) Reads.none_ (by simp) (by decide) (Lib.hid (tabs_below hT.out hb12))).mono ?_
  rintro e w3 ⟨rfl, hb3⟩
  have hb13 : Below w.heap.size w w3 := hb12.trans (hb3.mono hb12.size)
  clear hb12 hb3
  go_wp2_with fail
  refine (long_at _ _ rfl).mono ?_
  rintro e w' ⟨rfl, rfl⟩
  go_wp2_with fail
  refine (size_at _ _ _ 2 val_d (by decide)).mono ?_
  rintro e w' ⟨rfl, rfl⟩
  go_wp2_with fail
  refine (size_at _ _ _ 0 val_e (by decide)).mono ?_
  rintro e w' ⟨rfl, rfl⟩
  go_wp2_with fail
  go_ret
  exact ⟨rfl, hb13⟩
end Go.Proofs.YtabdhfpohodohaaDoor
