/-
  bosketlaw9.HandBytes returns true: small digits.
-/
import Derived.Test.YtabdhfpohodohaaDoorLawE
namespace Go.Proofs.YtabdhfpohodohaaDoor
open Go.RowKit

set_option maxRecDepth 100000 in
set_option maxHeartbeats 4000000 in
theorem bytes_no (x : Int) (w : World) (hT : Hid (Lib.Utf8Tabs 3 4 w)) :
    Calls Tryd.prog 6 #[.int .i64 x, .bool false] w fun e w' => e = .returned (.bool true) ∧ Below w.heap.size w w' := by
  go_enter Tryd.func6, Tryd.ntmps6
  go_wp2_with (first | (go_at_call 15; refine (scalar_any _ _).mono ?_; rintro e w' ⟨r, rfl, ⟨hr0, hr1, hr2⟩, rfl⟩))
  obtain ⟨c, rfl⟩ : ∃ c : Nat, r = c := ⟨r.toNat, by omega⟩
  rw [enc_eq ⟨hr0, hr1, hr2⟩, Int.toNat_natCast]
  have HF := Lib.hid (law_facts c (by omega) (by omega) false)
  have hl := enc_len c
  have hms : (mkS (encL c)).size ≤ 4 := by rw [mkS_size]; omega
  have hsz := Lib.hid (mkS_size (encL c))
  clear hr0 hr1 hr2
  go_loopw [7, 8] (fun s i wr => ∃ (k : Nat) (b : ByteArray), k ≤ (mkS (encL c)).size ∧ s = .string b ∧ PctTo false (encL c) k b ∧ i = .int .i64 k ∧ Below w.heap.size w wr) (fun _ i _ => (mkS (encL c)).size - (intOf i).toNat)
  case atStart => exact ⟨0, _, Nat.zero_le _, rfl, rfl, rfl, Below.refl _ _⟩
  case round =>
    obtain ⟨k, b, hk, rfl, HP, rfl, hbw⟩ := hrel
    by_cases hlt : k < (mkS (encL c)).size
    · have hbs : b.size ≤ 12 := by
        have := HP
        unfold PctTo at this
        rw [this, mkS_size, pct_len, List.length_take]; omega
      have hx : (mkS (encL c))[k].toNat < 256 := (mkS (encL c))[k].toNat_lt
      have HX : Hid ((encL c).take (k + 1) = (encL c).take k ++ [(mkS (encL c))[k]]) := Lib.hid (List.take_succ_eq_append_getElem (l := encL c) hlt)
      go_wp2
      go_quiet (fail)
      go_wp2
      go_roundw
      case rel =>
        exact ⟨k + 1, _, by omega, rfl, HP.next HX.out _ rfl, by go_num, ⟨hbw.os, hbw.tape, hbw.output, hbw.size, hbw.block⟩⟩
      case measure => simp [intOf]; omega
    · obtain rfl : k = (mkS (encL c)).size := by omega
      have hb : b = mkS (pctL false (encL c)) := by
        unfold PctTo at HP
        rw [HP, List.take_of_length_le (by rw [← mkS_size]; omega)]
      subst hb
      clear HP hlt hk
      have hps : (mkS (pctL false (encL c))).size ≤ 12 := by rw [mkS_size, pct_len]; omega
      clear hl
      go_wp2_with fail
      refine (full_nil _ _ _ _ HF.out.1 ?_ ?_).mono ?_
      · rw [ByteArray.size_append]
        show 2 + _ ≤ _
        omega
      · exact tabs_below hT.out hbw
      rintro e w1 ⟨rfl, hb1⟩
      have hb2 : Below w.heap.size w w1 := hbw.trans (hb1.mono hbw.size)
      clear hb1
      go_wp2_with fail
      refine (full_nil _ _ _ _ HF.out.2.1 ?_ ?_).mono ?_
      · rw [ByteArray.size_append, ByteArray.size_append]
        show 2 + _ + 3 ≤ _
        omega
      · exact tabs_below hT.out hb2
      rintro e w2 ⟨rfl, hb3⟩
      have hb4 : Below w.heap.size w w2 := hb2.trans (hb3.mono hb2.size)
      clear hb3
      go_wp2_with fail
      refine (full_nil _ _ _ _ HF.out.2.2 ?_ ?_).mono ?_
      · rw [ByteArray.size_append, ByteArray.size_append]
        show 2 + _ + 1 ≤ _
        omega
      · exact tabs_below hT.out hb4
      rintro e w3 ⟨rfl, hb5⟩
      have hb6 : Below w.heap.size w w3 := hb4.trans (hb5.mono hb4.size)
      clear hb5
      go_wp2_with fail
      refine (flow_37 _).mono ?_
      rintro e w' ⟨rfl, rfl⟩
      go_wp2_with fail
      refine (awake_any _ (Lib.hid (tabs_below hT.out hb6))).mono ?_
      rintro e w4 ⟨rfl, hb7⟩
      go_wp2_with fail
      go_ret
      exact ⟨rfl, hb6.trans (hb7.mono hb6.size)⟩
theorem lawBytes_any (x : Int) (b : Bool) (w : World) (hT : Hid (Lib.Utf8Tabs 3 4 w)) :
    Calls Tryd.prog 6 #[.int .i64 x, .bool b] w fun e w' => e = .returned (.bool true) ∧ Below w.heap.size w w' := by
  cases b
  · exact bytes_no x w hT
  · exact bytes_yes x w hT
end Go.Proofs.YtabdhfpohodohaaDoor
