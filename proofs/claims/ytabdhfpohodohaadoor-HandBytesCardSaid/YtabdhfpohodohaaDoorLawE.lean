/-
  bosketlaw9.HandBytes returns true.
-/
import Derived.Test.YtabdhfpohodohaaDoorLawC
import Derived.Test.YtabdhfpohodohaaDoorHandS
namespace Go.Proofs.YtabdhfpohodohaaDoor
open Go.RowKit

/-- the text of the bytes told, so far. -/
def PctTo (g : Bool) (l : Bs) (k : Nat) (s : ByteArray) : Prop := s = mkS (pctL g (l.take k))

def digS (g : Bool) : ByteArray := if g then ⟨#[48, 49, 50, 51, 52, 53, 54, 55, 56, 57, 65, 66, 67, 68, 69, 70]⟩ else ⟨#[48, 49, 50, 51, 52, 53, 54, 55, 56, 57, 97, 98, 99, 100, 101, 102]⟩
theorem dig_ext : ∀ g : Bool, ∀ n : Nat, n < 16 → (digS g).extract n (n + 1) = mkS [digU g n] := by decide +kernel
theorem PctTo.next {g : Bool} {l : Bs} {k : Nat} {b : ByteArray} {c : UInt8} (h : PctTo g l k b) (hx : l.take (k + 1) = l.take k ++ [c]) (D : ByteArray) (hD : D = digS g) :
    PctTo g l (k + 1) (b ++ ⟨#[37]⟩ ++ D.extract (c.toNat / 16) (c.toNat / 16 + 1) ++ D.extract (c.toNat % 16) (c.toNat % 16 + 1)) := by
  unfold PctTo at h ⊢
  have hc := c.toNat_lt
  rw [hD, dig_ext g _ (by omega), dig_ext g _ (by omega), h, hx, pct_app, show (⟨#[37]⟩ : ByteArray) = mkS [37] from rfl, mkS_append, mkS_append, mkS_append]
  simp [pctL]
theorem law_facts (c : Nat) (hc : c < 1114112) (hs : ¬ (55296 ≤ c ∧ c ≤ 57343)) (g : Bool) :
    fullS [] (⟨#[33, 97]⟩ ++ mkS (pctL g (encL c))) = (⟨#[33, 97]⟩ ++ mkS (encL c), 0) ∧ fullS [] (⟨#[33, 97]⟩ ++ mkS (pctL g (encL c)) ++ ⟨#[37, 102, 70]⟩) = (⟨#[]⟩, 8) ∧
      fullS [] (⟨#[33, 60]⟩ ++ mkS (pctL g (encL c)) ++ ⟨#[62]⟩) = (mkS (pctL g (encL c)), 0) := by
  obtain ⟨h1, h2, h3⟩ := bytes_facts c hc hs g
  refine ⟨?_, ?_, ?_⟩
  · rw [show (⟨#[33, 97]⟩ : ByteArray) = mkS [33, 97] from rfl, mkS_append, mkS_append]; exact h1
  · rw [show (⟨#[33, 97]⟩ : ByteArray) = mkS [33, 97] from rfl, show (⟨#[37, 102, 70]⟩ : ByteArray) = mkS [37, 102, 70] from rfl, mkS_append, mkS_append]; exact h2
  · rw [show (⟨#[33, 60]⟩ : ByteArray) = mkS [33, 60] from rfl, show (⟨#[62]⟩ : ByteArray) = mkS [62] from rfl, mkS_append, mkS_append]; exact h3
theorem full_nil (w : World) (tag r : ByteArray) (k : Int) (h : fullS [] tag = (r, k)) (hs : tag.size ≤ 140737488355327) (hT : Lib.Utf8Tabs 3 4 w) :
    Calls Tryd.prog 10 #[.slice none 0 0, .string tag] w fun e w' => e = .returned (.tuple #[.string r, .int .i64 k]) ∧ Below w.heap.size w w' :=
  full_at _ _ _ _ _ _ _ _ h (by decide) Reads.none_ (by simp) hs (Lib.hid hT)
theorem flow_37 (w : World) : Calls Tryd.prog 16 #[.int .u8 37] w fun e w' => e = .returned (.bool false) ∧ w = w' :=
  (flow_any 37 w).mono fun _ _ ⟨he, hw⟩ => ⟨by rw [he]; rfl, hw⟩

set_option maxRecDepth 100000 in
set_option maxHeartbeats 4000000 in
theorem bytes_yes (x : Int) (w : World) (hT : Hid (Lib.Utf8Tabs 3 4 w)) :
    Calls Tryd.prog 6 #[.int .i64 x, .bool true] w fun e w' => e = .returned (.bool true) ∧ Below w.heap.size w w' := by
  go_enter Tryd.func6, Tryd.ntmps6
  go_wp2_with (first | (go_at_call 15; refine (scalar_any _ _).mono ?_; rintro e w' ⟨r, rfl, ⟨hr0, hr1, hr2⟩, rfl⟩))
  obtain ⟨c, rfl⟩ : ∃ c : Nat, r = c := ⟨r.toNat, by omega⟩
  rw [enc_eq ⟨hr0, hr1, hr2⟩, Int.toNat_natCast]
  have HF := Lib.hid (law_facts c (by omega) (by omega) true)
  have hl := enc_len c
  have hms : (mkS (encL c)).size ≤ 4 := by rw [mkS_size]; omega
  have hsz := Lib.hid (mkS_size (encL c))
  clear hr0 hr1 hr2
  go_loopw [7, 8] (fun s i wr => ∃ (k : Nat) (b : ByteArray), k ≤ (mkS (encL c)).size ∧ s = .string b ∧ PctTo true (encL c) k b ∧ i = .int .i64 k ∧ Below w.heap.size w wr) (fun _ i _ => (mkS (encL c)).size - (intOf i).toNat)
  case atStart => exact ⟨0, _, Nat.zero_le _, rfl, rfl, rfl, Below.refl _ _⟩
  case round =>
    obtain ⟨k, b, hk, rfl, HP, rfl, hbw⟩ := hrel
    by_cases hlt : k < (mkS (encL c)).size
    · have hbs : b.size ≤ 12 := by
        have := HP
        unfold PctTo at this
        rw [this, mkS_size, pct_len, List.length_take]; omega
      have hx : (mkS (encL c))[k].toNat < 256 := (mkS (encL c))[k].toNat_lt
      have HX : Hid ((encL c).take (k + 1) = (encL c).take k ++ [(mkS (encL c))[k]]) := Lib.hid (List.take_succ_eq_append_getElem (l := encL c) hlt)
      go_wp2
      go_quiet (fail)
      go_wp2
      go_roundw
      case rel =>
        exact ⟨k + 1, _, by omega, rfl, HP.next HX.out _ rfl, by go_num, ⟨hbw.os, hbw.tape, hbw.output, hbw.size, hbw.block⟩⟩
      case measure => simp [intOf]; omega
    · obtain rfl : k = (mkS (encL c)).size := by omega
      have hb : b = mkS (pctL true (encL c)) := by
        unfold PctTo at HP
        rw [HP, List.take_of_length_le (by rw [← mkS_size]; omega)]
      subst hb
      clear HP hlt hk
      have hps : (mkS (pctL true (encL c))).size ≤ 12 := by rw [mkS_size, pct_len]; omega
      clear hl
      go_wp2_with fail
      refine (full_nil _ _ _ _ HF.out.1 ?_ ?_).mono ?_
      · rw [ByteArray.size_append]
        show 2 + _ ≤ _
        omega
      · exact tabs_below hT.out hbw
      rintro e w1 ⟨rfl, hb1⟩
      have hb2 : Below w.heap.size w w1 := hbw.trans (hb1.mono hbw.size)
      clear hb1
      go_wp2_with fail
      refine (full_nil _ _ _ _ HF.out.2.1 ?_ ?_).mono ?_
      · rw [ByteArray.size_append, ByteArray.size_append]
        show 2 + _ + 3 ≤ _
        omega
      · exact tabs_below hT.out hb2
      rintro e w2 ⟨rfl, hb3⟩
      have hb4 : Below w.heap.size w w2 := hb2.trans (hb3.mono hb2.size)
      clear hb3
      go_wp2_with fail
      refine (full_nil _ _ _ _ HF.out.2.2 ?_ ?_).mono ?_
      · rw [ByteArray.size_append, ByteArray.size_append]
        show 2 + _ + 1 ≤ _
        omega
      · exact tabs_below hT.out hb4
      rintro e w3 ⟨rfl, hb5⟩
      have hb6 : Below w.heap.size w w3 := hb4.trans (hb5.mono hb4.size)
      clear hb5
      go_wp2_with fail
      refine (flow_37 _).mono ?_
      rintro e w' ⟨rfl, rfl⟩
      go_wp2_with fail
      refine (awake_any _ (Lib.hid (tabs_below hT.out hb6))).mono ?_
      rintro e w4 ⟨rfl, hb7⟩
      go_wp2_with fail
      go_ret
      exact ⟨rfl, hb6.trans (hb7.mono hb6.size)⟩
end Go.Proofs.YtabdhfpohodohaaDoor
