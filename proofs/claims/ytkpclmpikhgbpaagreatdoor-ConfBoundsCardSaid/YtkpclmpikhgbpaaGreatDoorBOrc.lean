/-
  What is known of a number of which only bounds are known, and of its digits: Digits, strconv.Atoi, strings.Trim.
-/
import Derived.Test.YtkpclmpikhgbpaaGreatDoorBLow
import Derived.Test.YtkpclmpikhgbpaaGreatDoorNum
import Derived.Shelf.Strconv.Itoa3
import Derived.Lib.ItoaLen
import Derived.Shelf.Strings.SlTrimAscii
set_option linter.unusedVariables false
set_option linter.unusedSimpArgs false
set_option linter.unnecessarySimpa false
set_option linter.all false
namespace Go.Proofs.YtkpclmpikhgbpaaGreatDoor
open Go.RowKit Ev

/-! ### bosketlaw0.Digits -/
def digB (r : Nat) : ByteArray := ⟨#[UInt8.ofNat (48 + r)]⟩
theorem dig_ext : ∀ r : Nat, r < 10 → (⟨#[48, 49, 50, 51, 52, 53, 54, 55, 56, 57]⟩ : ByteArray).extract r (r + 1) = digB r := by
  have h : ∀ r : Nat, r < 10 → (⟨#[48, 49, 50, 51, 52, 53, 54, 55, 56, 57]⟩ : ByteArray).extract r (r + 1) = ⟨#[UInt8.ofNat (48 + r)]⟩ := by decide +kernel
  exact h
def decB (m : Nat) : ByteArray := ⟨(Lib.decDigits m).toArray⟩
theorem decB_size (m : Nat) (h : m ≤ 9223372036854775807) : (decB m).size ≤ 21 := by
  have := Lib.itoa_length_le m (by omega) (by omega)
  rw [Lib.itoa_nonneg] at this
  show (Lib.decDigits m).toArray.size ≤ 21
  simpa using this
theorem decB_small (m : Nat) (h : m < 10) : decB m = digB m := by unfold decB digB; rw [Lib.decDigits, dif_pos h]
theorem decB_big (m : Nat) (h : ¬ m < 10) : decB m = decB (m / 10) ++ digB (m % 10) := by
  unfold decB digB
  rw [Lib.decDigits, dif_neg h]
  apply ByteArray.ext
  simp
theorem cat_any (x y : ByteArray) (h : x.size + y.size ≤ 1000) : ∀ W : World, (Op.stringOp .add x y).run Tryz.prog W = .ok (.string (x ++ y)) W := fun W => run_string_add_sum W x y (by omega)
set_option maxRecDepth 100000 in
theorem digits_any : ∀ (m : Nat) (w : World), m ≤ 9223372036854775807 →
    Calls Tryz.prog 6 #[.int .i64 (m : Int)] w fun e w' => ∃ s : ByteArray, e = .returned (.string s) ∧ Hid (s = decB m) ∧ s.size ≤ 21 ∧ w = w' := by
  intro m
  induction m using Nat.strongRecOn with
  | _ m ih =>
    intro w hm
    by_cases hlt : m < 10
    · have hd := dig_ext m hlt
      have hmx : max (m : Int) 0 = m := by omega
      have hsl : ∀ W, (Instr.slice 9 (.string ⟨#[48, 49, 50, 51, 52, 53, 54, 55, 56, 57]⟩) (some (.int .i64 m)) (some (.int .i64 ((m : Int) + 1))) none).run Tryz.prog W = .ok (.string (digB m)) W := fun W => by
        rw [run_slice_string W 9 _ .i64 .i64 m ((m : Int) + 1) Tryz.underlying9 (by omega) (by omega) (by show (m : Int) + 1 ≤ 10; omega)]
        have e1 : ((m : Int)).toNat = m := by omega
        have e2 : ((m : Int) + 1).toNat = m + 1 := by omega
        rw [e1, e2, hd]
      clear hd
      have HD := Lib.hid (decB_small m hlt)
      go_enter Tryz.func6, Tryz.ntmps6
      go_wp2_with fail
      all_goals go_ret
      all_goals exact ⟨_, rfl, Lib.hid HD.out.symm, by show 1 ≤ 21; omega, rfl⟩
    · have h1 := ih (m / 10) (by omega) w (by omega)
      have h2 := ih (m % 10) (by omega) w (by omega)
      have e1 : (m : Int).tdiv 10 = (m / 10 : Nat) := rfl
      have e2 : (m : Int).tmod 10 = (m % 10 : Nat) := rfl
      have ec : ((m / 10 : Nat) : Int) = (m : Int) / 10 := by omega
      have ed : ((m % 10 : Nat) : Int) = (m : Int) % 10 := by omega
      rw [ec] at h1
      rw [ed] at h2
      have HB := Lib.hid (decB_big m hlt)
      have HS := Lib.hid (decB_small (m % 10) (by omega))
      go_enter Tryz.func6, Tryz.ntmps6
      go_wp2_with fail
      refine h1.mono ?_
      rintro e w' ⟨s, rfl, Hs, hs, rfl⟩
      go_wp2_with fail
      refine h2.mono ?_
      rintro e w' ⟨s', rfl, Hs', hs', rfl⟩
      have hcat := cat_any s s' (by omega)
      go_wp2_with fail
      all_goals go_ret
      all_goals exact ⟨_, rfl, Lib.hid (by rw [HB.out, Hs.out, Hs'.out, HS.out]), by rw [Hs.out, Hs'.out, HS.out, ← HB.out]; exact decB_size m hm, rfl⟩
theorem atoi_dec {w c : Nat} (h0 : lowN w ≤ c) (h1 : c ≤ higN w) {s : ByteArray} (hs : s = decB c) (W : World) :
    Calls Tryz.prog 92 [Value.string s].toArray W fun e w' => e = .returned (.tuple #[.int .i64 c, .nilIface]) ∧ Below W.heap.size W w' := by
  obtain ⟨d, r, e1, hd, hn⟩ := digN_ok w c h0 h1
  have hl : s.data.toList = dgB (d :: r) := by rw [hs, ← e1, ← decDigits_digN w c h0 h1]; unfold decB; simp
  have hz : s.size ≤ 18 := by
    have a1 : s.size = s.data.toList.length := by simp
    have a2 : (d :: r).length ≤ 4 := by
      rw [← e1]
      match w with
      | 0 => exact Nat.le_refl 4
      | 1 => show 1 ≤ 4; omega
      | 2 => show 2 ≤ 4; omega
      | 3 => show 3 ≤ 4; omega
      | n + 4 => exact Nat.le_refl 4
    rw [a1, hl, dgB_length]; omega
  refine (Tryz.strconv_Atoi s c hz (by rw [hl, atoi_dgB d r hd, hn]) W).mono ?_
  rintro e w' ⟨rfl, t, rfl⟩
  exact ⟨rfl, Lib.bytesWorld_below _ _ _⟩
theorem trim_dec {w c : Nat} (h0 : lowN w ≤ c) (h1 : c ≤ higN w) {s cut : ByteArray} (hs : s = decB c) (hc : cut.data.toList = [48, 49, 50, 51, 52, 53, 54, 55, 56, 57]) (W : World) :
    Calls Tryz.prog 93 [Value.string s, Value.string cut].toArray W fun e w' => e = .returned (.string ⟨#[]⟩) ∧ Below W.heap.size W w' := by
  obtain ⟨d, r, e1, hd, hn⟩ := digN_ok w c h0 h1
  have hl : s.data.toList = dgB (d :: r) := by rw [hs, ← e1, ← decDigits_digN w c h0 h1]; unfold decB; simp
  have hz : s.size ≤ 21 := by rw [hs]; exact decB_size c (by have : higN w ≤ 9999 := (by unfold higN; split <;> omega); omega)
  have hk : cut.size = 10 := by
    have a1 : cut.size = cut.data.toList.length := by simp
    rw [a1, hc]; rfl
  refine (Any.strings_Trim_laid Tryz.lays160 (by kernel_rfl) s cut W (by omega) (by omega) (by rw [hc]; exact ascii_of_all (by decide))).mono ?_
  rintro e w' ⟨rfl, hb⟩
  refine ⟨?_, hb⟩
  rw [hl, hc, trim_dgB _ hd]

/-- how many numbers are tried, by key. -/
def cbN : Nat → Nat
  | 0 => 10003
  | _ => 12
/-- known answers at a key k, at numbers of so many digits. -/
def orcB (k q : Nat) (f : Nat) (l : List AV) : Option AV :=
  if Nat.beq f 4 then (match l with
    | [.m 0, .i .i64 (.ofNat n)] => if Nat.beq n (cbN k) then some (.mr 2 .i64 (lowN q) (higN q)) else none
    | [.m 1, .i .i64 (.ofNat 3)] => some (.i .i64 (.ofNat k))
    | _ => none)
  else if Nat.beq f 6 then (match l with
    | [.mr 2 .i64 _ _] => some (.sm (dsL q))
    | _ => none)
  else if Nat.beq f 93 then (match l with
    | [.sm l, .s 10 v] => if sameMr l (dsL q) && Nat.beq v 270211885617516653982000 then some (.s 0 0) else none
    | _ => none)
  else if Nat.beq f 92 then (match l with
    | [.sm l] => if sameMr l (dsL q) then some (.tup [.mr 2 .i64 (lowN q) (higN q), .ni]) else none
    | _ => none)
  else if Nat.beq f 7 then (match l with
    | [] => some (.b true)
    | _ => none)
  else if Nat.beq f 71 then (match l with
    | [.s n v, .s m u] => if Nat.ble n 1000000 then some (idxV n v m u) else none
    | [.sm l, .s m u] => idxMV l m u
    | _ => none)
  else none
theorem low_at {x : Int} {n c : Nat} (h0 : 0 < n) (h1 : n ≤ 4294967296) (h : lowZ x n = c) (w : World) : Calls Tryz.prog 4 [Value.int .i64 x, Value.int .i64 n].toArray w fun e w' => e = .returned (.int .i64 c) ∧ w = w' := by
  have := low_any x n w h0 h1
  rw [h] at this
  exact this
theorem orcB_ok (h : AwakeRuns) {k q c : Nat} {x y : Int} (hk : lowZ y 3 = k) (hc : lowZ x (cbN k) = c) (h0 : lowN q ≤ c) (h1 : c ≤ higN q) {W : World} (hm : Known W) : OrcOK Tryz.prog (muL (xsN q x y c) W) (orcB k q) := by
  have hn : 0 < cbN k ∧ cbN k ≤ 4294967296 := by unfold cbN; split <;> omega
  have hds : ∀ {j : J}, RL (muL (xsN q x y c) W) j (dsL q) ((decB c).data.toList.map fun b => Value.int .u8 b.toNat) := by
    intro j
    have := rl_dsL (μ := muL (xsN q x y c) W) (j := j) (w := q) (c := c) (x := x) (y := y) (fun _ => rfl) h0 h1
    rw [← decDigits_digN q c h0 h1] at this
    unfold decB
    simpa using this
  have hmr : ∀ {j : J}, RV (muL (xsN q x y c) W) j (.mr 2 .i64 (lowN q) (higN q)) (.int .i64 (c : Int)) := fun {j} => ⟨.i64, (c : Int), rfl, rfl, by omega, by omega⟩
  have hinj : ∀ {j : J} {s : ByteArray}, RL (muL (xsN q x y c) W) j (dsL q) (s.data.toList.map fun b => Value.int .u8 b.toNat) → s = decB c := by
    intro j s hs
    have e := u8_inj (rl_inj (allMr_dsL q) hs hds)
    exact ByteArray.ext (Array.toList_inj.mp e)
  have hcl : c ≤ 9999 := by have : higN q ≤ 9999 := (by unfold higN; split <;> omega); omega
  intro f args y' hy j w vs hh hv
  unfold orcB at hy
  split at hy
  · rename_i hf
    obtain rfl := Nat.eq_of_beq_eq_true hf
    split at hy
    · rename_i n
      split at hy
      · rename_i hn'
        obtain rfl := Nat.eq_of_beq_eq_true hn'
        cases hy
        obtain ⟨v, t, rfl, g1, g2⟩ := hv
        obtain ⟨v2, t2, rfl, g3, g4⟩ := g2
        cases g1
        cases g3
        cases g4
        refine ⟨⟨Tryz.f4, Tryz.func4, rfl, by decide +kernel⟩, (low_at (x := x) hn.1 hn.2 hc w).mono ?_⟩
        rintro e w' ⟨rfl, rfl⟩
        exact ⟨_, rfl, hmr, Below.refl _ _⟩
      · cases hy
    · cases hy
      obtain ⟨v, t, rfl, g1, g2⟩ := hv
      obtain ⟨v2, t2, rfl, g3, g4⟩ := g2
      cases g1
      cases g3
      cases g4
      refine ⟨⟨Tryz.f4, Tryz.func4, rfl, by decide +kernel⟩, (low_at (x := y) (n := 3) (by decide) (by decide) hk w).mono ?_⟩
      rintro e w' ⟨rfl, rfl⟩
      exact ⟨_, rfl, rfl, Below.refl _ _⟩
    · cases hy
  · split at hy
    · rename_i hf
      obtain rfl := Nat.eq_of_beq_eq_true hf
      split at hy
      · cases hy
        obtain ⟨v, t, rfl, ⟨d0, n, g1, rfl, g2, g3⟩, g4⟩ := hv
        cases g4
        cases g1
        refine ⟨⟨Tryz.f6, Tryz.func6, rfl, by decide +kernel⟩, (digits_any c w (by omega)).mono ?_⟩
        rintro e w' ⟨s, rfl, hs, _, rfl⟩
        exact ⟨_, rfl, ⟨s, rfl, by rw [hs.out]; exact hds⟩, Below.refl _ _⟩
      · cases hy
    · split at hy
      · rename_i hf
        obtain rfl := Nat.eq_of_beq_eq_true hf
        split at hy
        · rename_i l v
          split at hy
          · rename_i hh'
            cases hy
            simp only [Bool.and_eq_true] at hh'
            obtain rfl := sameMr_eq hh'.1
            have hv10 := Nat.eq_of_beq_eq_true hh'.2
            obtain ⟨v1, t1, rfl, ⟨s, rfl, e1⟩, g2⟩ := hv
            obtain ⟨v2, t2, rfl, ⟨cut, rfl, e2, e3⟩, g4⟩ := g2
            cases g4
            have hcut : cut.data.toList = [48, 49, 50, 51, 52, 53, 54, 55, 56, 57] := encL_inj (by rw [Array.length_toList]; exact e2) (by rw [e3, hv10]; decide +kernel)
            refine ⟨⟨Tryz.f93, Tryz.func93, rfl, by decide +kernel⟩, (trim_dec h0 h1 (hinj e1) hcut w).mono ?_⟩
            rintro e w' ⟨rfl, hb⟩
            exact ⟨_, rfl, ⟨_, rfl, rfl, rfl⟩, hb⟩
          · cases hy
        · cases hy
      · split at hy
        · rename_i hf
          obtain rfl := Nat.eq_of_beq_eq_true hf
          split at hy
          · split at hy
            · rename_i hh'
              cases hy
              obtain rfl := sameMr_eq hh'
              obtain ⟨v1, t1, rfl, ⟨s, rfl, e1⟩, g2⟩ := hv
              cases g2
              refine ⟨⟨Tryz.f92, Tryz.func92, rfl, by decide +kernel⟩, (atoi_dec h0 h1 (hinj e1) w).mono ?_⟩
              rintro e w' ⟨rfl, hb⟩
              exact ⟨_, rfl, ⟨_, rfl, _, _, rfl, hmr, _, _, rfl, rfl, rfl⟩, hb⟩
            · cases hy
          · cases hy
        · split at hy
          · rename_i hf
            obtain rfl := Nat.eq_of_beq_eq_true hf
            split at hy
            · cases hy
              cases hv
              refine ⟨⟨Tryz.f7, Tryz.func7, rfl, by decide +kernel⟩, (awake_any h hm w fun g o hg => hh g o hg).mono ?_⟩
              rintro e w' ⟨rfl, hb⟩
              exact ⟨_, rfl, rfl, hb⟩
            · cases hy
          · split at hy
            · rename_i hf
              obtain rfl := Nat.eq_of_beq_eq_true hf
              split at hy
              · rename_i n v m' u
                have := orcI_ok (xsN q x y c) hm 71 [.s n v, .s m' u] y' (by unfold orcI; exact hy) j w vs hh hv
                exact this
              · rename_i l m' u
                obtain ⟨v1, t1, rfl, ⟨s, rfl, e1⟩, g2⟩ := hv
                obtain ⟨v2, t2, rfl, ⟨sub, rfl, e2, e3⟩, g4⟩ := g2
                cases g4
                subst e2
                subst e3
                obtain ⟨hz, rfl⟩ := idxMV_ok e1 hy
                obtain ⟨m, hcl⟩ := hm.idx
                refine ⟨⟨Tryz.f71, Tryz.func71, rfl, by decide +kernel⟩, (Tryz.stringslite_Index s sub m w (by omega) (hh.cell (by simp) hcl)).mono ?_⟩
                rintro e w' ⟨rfl, rfl⟩
                exact ⟨_, rfl, rfl, Below.refl _ _⟩
              · cases hy
            · cases hy
end Go.Proofs.YtkpclmpikhgbpaaGreatDoor
