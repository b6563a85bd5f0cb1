/-
  What is known of three numbers of which only bounds are known, and of their digits: Digits, strconv.Itoa, strconv.Atoi, strings.Trim.
-/
import Derived.Test.YtpflpjkbiopmpaaGreatDoorQLow
import Derived.Test.YtpflpjkbiopmpaaGreatDoorNumT
import Derived.Shelf.Strconv.Itoa3
import Derived.Lib.ItoaLen
import Derived.Lib.AppendIntMem
import Derived.Shelf.Strings.SlTrimAscii
set_option linter.unusedVariables false
set_option linter.unusedSimpArgs false
set_option linter.unnecessarySimpa false
set_option linter.all false
namespace Go.Proofs.YtpflpjkbiopmpaaGreatDoor
open Go.RowKit Ev

/-! ### bosketlaw0.Digits -/
def digB (r : Nat) : ByteArray := ⟨#[UInt8.ofNat (48 + r)]⟩
theorem dig_ext : ∀ r : Nat, r < 10 → (⟨#[48, 49, 50, 51, 52, 53, 54, 55, 56, 57]⟩ : ByteArray).extract r (r + 1) = digB r := by
  have h : ∀ r : Nat, r < 10 → (⟨#[48, 49, 50, 51, 52, 53, 54, 55, 56, 57]⟩ : ByteArray).extract r (r + 1) = ⟨#[UInt8.ofNat (48 + r)]⟩ := by decide +kernel
  exact h
def decB (m : Nat) : ByteArray := ⟨(Lib.decDigits m).toArray⟩
theorem decB_size (m : Nat) (h : m ≤ 9223372036854775807) : (decB m).size ≤ 21 := by
  have := Lib.itoa_length_le m (by omega) (by omega)
  rw [Lib.itoa_nonneg] at this
  show (Lib.decDigits m).toArray.size ≤ 21
  simpa using this
theorem decB_small (m : Nat) (h : m < 10) : decB m = digB m := by unfold decB digB; rw [Lib.decDigits, dif_pos h]
theorem decB_big (m : Nat) (h : ¬ m < 10) : decB m = decB (m / 10) ++ digB (m % 10) := by
  unfold decB digB
  rw [Lib.decDigits, dif_neg h]
  apply ByteArray.ext
  simp
theorem cat_any (x y : ByteArray) (h : x.size + y.size ≤ 1000) : ∀ W : World, (Op.stringOp .add x y).run Tryz.prog W = .ok (.string (x ++ y)) W := fun W => run_string_add_sum W x y (by omega)
set_option maxRecDepth 100000 in
theorem digits_any : ∀ (m : Nat) (w : World), m ≤ 9223372036854775807 →
    Calls Tryz.prog 6 #[.int .i64 (m : Int)] w fun e w' => ∃ s : ByteArray, e = .returned (.string s) ∧ Hid (s = decB m) ∧ s.size ≤ 21 ∧ w = w' := by
  intro m
  induction m using Nat.strongRecOn with
  | _ m ih =>
    intro w hm
    by_cases hlt : m < 10
    · have hd := dig_ext m hlt
      have hmx : max (m : Int) 0 = m := by omega
      have hsl : ∀ W, (Instr.slice 9 (.string ⟨#[48, 49, 50, 51, 52, 53, 54, 55, 56, 57]⟩) (some (.int .i64 m)) (some (.int .i64 ((m : Int) + 1))) none).run Tryz.prog W = .ok (.string (digB m)) W := fun W => by
        rw [run_slice_string W 9 _ .i64 .i64 m ((m : Int) + 1) Tryz.underlying9 (by omega) (by omega) (by show (m : Int) + 1 ≤ 10; omega)]
        have e1 : ((m : Int)).toNat = m := by omega
        have e2 : ((m : Int) + 1).toNat = m + 1 := by omega
        rw [e1, e2, hd]
      clear hd
      have HD := Lib.hid (decB_small m hlt)
      go_enter Tryz.func6, Tryz.ntmps6
      go_wp2_with fail
      all_goals go_ret
      all_goals exact ⟨_, rfl, Lib.hid HD.out.symm, by show 1 ≤ 21; omega, rfl⟩
    · have h1 := ih (m / 10) (by omega) w (by omega)
      have h2 := ih (m % 10) (by omega) w (by omega)
      have e1 : (m : Int).tdiv 10 = (m / 10 : Nat) := rfl
      have e2 : (m : Int).tmod 10 = (m % 10 : Nat) := rfl
      have ec : ((m / 10 : Nat) : Int) = (m : Int) / 10 := by omega
      have ed : ((m % 10 : Nat) : Int) = (m : Int) % 10 := by omega
      rw [ec] at h1
      rw [ed] at h2
      have HB := Lib.hid (decB_big m hlt)
      have HS := Lib.hid (decB_small (m % 10) (by omega))
      go_enter Tryz.func6, Tryz.ntmps6
      go_wp2_with fail
      refine h1.mono ?_
      rintro e w' ⟨s, rfl, Hs, hs, rfl⟩
      go_wp2_with fail
      refine h2.mono ?_
      rintro e w' ⟨s', rfl, Hs', hs', rfl⟩
      have hcat := cat_any s s' (by omega)
      go_wp2_with fail
      all_goals go_ret
      all_goals exact ⟨_, rfl, Lib.hid (by rw [HB.out, Hs.out, Hs'.out, HS.out]), by rw [Hs.out, Hs'.out, HS.out, ← HB.out]; exact decB_size m hm, rfl⟩

/-- the table that strconv.Itoa reads. -/
def Pow (w : World) : Prop := Lib.TabIs Tryz.prog w "internal/strconv.uint64pow10" .u64 Lib.pow10Tab
theorem gPow : Tryz.prog.globalNamed "internal/strconv.uint64pow10" = some 0 := by kernel_rfl

theorem Pow.held {W w : World} (h : Pow W) (hh : ∀ o, W.heap[0]? = some o → w.heap[0]? = some o) : Pow w := by
  unfold Pow Lib.TabIs World.var? at h ⊢
  rw [gPow] at h ⊢
  simp only [Option.bind_some] at h ⊢
  cases ho : W.heap[0]? with
  | none => rw [ho] at h; cases h
  | some o => rw [ho] at h; rw [hh o ho]; exact h
theorem decB_list (c : Nat) : (decB c).data.toList = Lib.decDigits c := by unfold decB; simp
/-- the digits of a number that a marker stands for. -/
def digT (q : Nat) (l : List AV) : Option AV := match l with
  | [.mr k .i64 _ _] => if Nat.beq k 1048579 then some (.sm (dsW q)) else if Nat.beq k 1048580 then some (.sm [.mr 11 .u8 49 57]) else if Nat.beq k 5 then some (.sm [.mr 12 .u8 48 57]) else none
  | _ => none
/-- the number that has such digits. -/
def tokT (q : Nat) (l : List AV) : Option AV := if sameMr l (dsW q) then some (.mr 1048579 .i64 (lowW q) (higW q)) else if sameMr l [.mr 11 .u8 49 57] then some (.mr 1048580 .i64 1 9) else if sameMr l [.mr 12 .u8 48 57] then some (.mr 5 .i64 0 9) else none
/-- known answers at widths of so many digits. -/
def orcT (q : Nat) (f : Nat) (l : List AV) : Option AV :=
  if Nat.beq f 5 then (match l with
    | [.m 0, .i .i64 (.ofNat 10000)] => some (.mr 3 .i64 (lowW q - 1) (higW q - 1))
    | [.m 1, .i .i64 (.ofNat 9)] => some (.mr 4 .i64 0 8)
    | [.m 2, .i .i64 (.ofNat 10)] => some (.mr 5 .i64 0 9)
    | _ => none)
  else if Nat.beq f 6 then digT q l
  else if Nat.beq f 15 then digT q l
  else if Nat.beq f 207 then (match l with
    | [.sm l, .s 10 v] => if Nat.beq v 270211885617516653982000 then (match tokT q l with | some _ => some (.s 0 0) | none => none) else none
    | _ => none)
  else if Nat.beq f 206 then (match l with
    | [.sm l] => (match tokT q l with | some a => some (.tup [a, .ni]) | none => none)
    | _ => none)
  else if Nat.beq f 4 then (match l with
    | [] => some (.b true)
    | _ => none)
  else if Nat.beq f 149 then (match l with
    | [.s n v, .s m u] => if Nat.ble n 1000000 then some (idxV n v m u) else none
    | [.sm l, .s m u] => idxMV l m u
    | _ => none)
  else none
theorem low_at {x : Int} {n c : Nat} {v : Int} (h0 : 0 < n) (h1 : n ≤ 4294967296) (h : lowZ x n = c) (hv : v = c) (w : World) : Calls Tryz.prog 5 [Value.int .i64 x, Value.int .i64 n].toArray w fun e w' => e = .returned (.int .i64 v) ∧ w = w' := by
  have := low_any x n w h0 h1
  rw [h] at this
  rw [hv]
  exact this
/-- the three numbers, and what the markers stand for. -/
structure Nums (q : Nat) (x y z : Int) (b : Value) (wi n k : Nat) : Prop where
  hq : q = 1 ∨ q = 2 ∨ q = 3 ∨ q = 4 ∨ q = 5
  hx : lowZ x 10000 = (wi - 1 : Nat)
  hy : lowZ y 9 = (n - 1 : Nat)
  hz : lowZ z 10 = (k : Nat)
  w0 : lowW q ≤ wi
  w1 : wi ≤ higW q
  n0 : 1 ≤ n
  n1 : n ≤ 9
  k1 : k ≤ 9
section
variable {q : Nat} {x y z : Int} {b : Value} {wi n k : Nat} {W : World}
theorem Nums.tw (h : Nums q x y z b wi n k) : Tok (muV (vsT q x y z b wi n k) W) (dsW q) wi := tok_w h.hq (fun i d hd => vsT_dig i d hd (digW_len _ _)) h.w0 h.w1
theorem Nums.tn (h : Nums q x y z b wi n k) : Tok (muV (vsT q x y z b wi n k) W) [.mr 11 .u8 49 57] n := tok_one (μ := muV (vsT q x y z b wi n k) W) (c := n) rfl (by decide) (by have := h.n1; omega) (by have := h.n0; omega) (by have := h.n1; omega)
theorem Nums.tk (h : Nums q x y z b wi n k) : Tok (muV (vsT q x y z b wi n k) W) [.mr 12 .u8 48 57] k := tok_one (μ := muV (vsT q x y z b wi n k) W) (c := k) rfl (by decide) (by have := h.k1; omega) (by omega) (by have := h.k1; omega)
theorem Nums.w5 (h : Nums q x y z b wi n k) : 1 ≤ wi ∧ wi ≤ 10000 := by
  have a := h.w0
  have b := h.w1
  rcases h.hq with e | e | e | e | e <;> subst e <;> simp only [lowW, higW, lowN, higN] at a b <;> omega
theorem Nums.mw (h : Nums q x y z b wi n k) : mrV (muV (vsT q x y z b wi n k) W) 1048579 (wi : Int) := ⟨.i64, (wi : Int) - 1, rfl, by show (wi : Int) = (wi : Int) - 1 + 1; omega⟩
theorem Nums.mn (h : Nums q x y z b wi n k) : mrV (muV (vsT q x y z b wi n k) W) 1048580 (n : Int) := ⟨.i64, (n : Int) - 1, rfl, by show (n : Int) = (n : Int) - 1 + 1; omega⟩
theorem Nums.mk' (h : Nums q x y z b wi n k) : mrV (muV (vsT q x y z b wi n k) W) 5 (k : Int) := .of (d0 := .i64) rfl (by decide)
end
section
variable {q : Nat} {x y z : Int} {b : Value} {wi n k : Nat} {W : World} {j : J}
theorem digT_ok (hN : Nums q x y z b wi n k) {l : List AV} {y' : AV} (h : digT q l = some y') {vs : List Value} (hv : RL (muV (vsT q x y z b wi n k) W) j l vs) : ∃ (c : Nat) (l' : List AV), vs = [.int .i64 (c : Int)] ∧ y' = .sm l' ∧ Tok (muV (vsT q x y z b wi n k) W) l' c ∧ c ≤ 10000 := by
  have h5 := hN.w5
  have hn1 := hN.n1
  have hk1 := hN.k1
  unfold digT at h
  split at h
  · obtain ⟨v, t, rfl, ⟨m, g1, rfl, g2, g3⟩, g4⟩ := hv
    cases g4
    split at h
    · rename_i hk
      obtain rfl := Nat.eq_of_beq_eq_true hk
      cases h
      rw [g1.inj hN.mw]
      exact ⟨wi, _, rfl, rfl, hN.tw, h5.2⟩
    · split at h
      · rename_i hk
        obtain rfl := Nat.eq_of_beq_eq_true hk
        cases h
        rw [g1.inj hN.mn]
        exact ⟨n, _, rfl, rfl, hN.tn, by omega⟩
      · split at h
        · rename_i hk
          obtain rfl := Nat.eq_of_beq_eq_true hk
          cases h
          rw [g1.inj hN.mk']
          exact ⟨k, _, rfl, rfl, hN.tk, by omega⟩
        · cases h
  · cases h
theorem tokT_ok (hN : Nums q x y z b wi n k) {l : List AV} {a : AV} (h : tokT q l = some a) : ∃ c : Nat, Tok (muV (vsT q x y z b wi n k) W) l c ∧ RV (muV (vsT q x y z b wi n k) W) j a (.int .i64 (c : Int)) := by
  have hw0 := hN.w0
  have hw1 := hN.w1
  have hn0 := hN.n0
  have hn1 := hN.n1
  have hk1 := hN.k1
  unfold tokT at h
  split at h
  · rename_i hs
    obtain rfl := sameMr_eq hs
    cases h
    exact ⟨wi, hN.tw, _, hN.mw, rfl, by omega, by omega⟩
  · split at h
    · rename_i hs
      obtain rfl := sameMr_eq hs
      cases h
      exact ⟨n, hN.tn, _, hN.mn, rfl, by omega, by omega⟩
    · split at h
      · rename_i hs
        obtain rfl := sameMr_eq hs
        cases h
        exact ⟨k, hN.tk, _, hN.mk', rfl, by omega, by omega⟩
      · cases h
end
theorem dig_at {μ : Mu} {l : List AV} {c : Nat} (h : Tok μ l c) (hc : c ≤ 10000) (w : World) (j : J) : Calls Tryz.prog 6 [Value.int .i64 (c : Int)].toArray w fun e w' => ∃ v, e = .returned v ∧ RV μ j (.sm l) v ∧ Below w.heap.size w w' := by
  refine (digits_any c w (by omega)).mono ?_
  rintro e w' ⟨s, rfl, hs, _, rfl⟩
  exact ⟨_, rfl, ⟨s, rfl, by rw [hs.out, decB_list]; exact h.rl j⟩, Below.refl _ _⟩
theorem itoa_at {μ : Mu} {l : List AV} {c : Nat} (h : Tok μ l c) (hc : c ≤ 10000) (w : World) (hp : Pow w) (j : J) : Calls Tryz.prog 15 [Value.int .i64 (c : Int)].toArray w fun e w' => ∃ v, e = .returned v ∧ RV μ j (.sm l) v ∧ Below w.heap.size w w' := by
  refine (Tryz.strconv_Itoa c (by omega) (by omega) w hp).mono ?_
  rintro e w' ⟨rfl, k, os, rfl⟩
  refine ⟨_, rfl, ⟨_, rfl, ?_⟩, Lib.below_grow _ _ (Nat.le_refl _) _ _⟩
  have := h.rl j
  rw [← Lib.itoa_nonneg] at this
  simpa using this
theorem atoi_at {μ : Mu} {l : List AV} {c : Nat} (h : Tok μ l c) {j : J} {s : ByteArray} (hs : RL μ j l (s.data.toList.map fun b => Value.int .u8 b.toNat)) (W : World) :
    Calls Tryz.prog 206 [Value.string s].toArray W fun e w' => e = .returned (.tuple #[.int .i64 c, .nilIface]) ∧ Below W.heap.size W w' := by
  have hl := h.digits hs
  obtain ⟨h1, h2, _⟩ := h.atoi
  have hz : s.size ≤ 18 := by
    have a1 : s.size = s.data.toList.length := by simp
    rw [a1, hl]; omega
  refine (Tryz.strconv_Atoi s c hz (by rw [hl]; exact h1) W).mono ?_
  rintro e w' ⟨rfl, t, rfl⟩
  exact ⟨rfl, Lib.bytesWorld_below _ _ _⟩
theorem trim_at {μ : Mu} {l : List AV} {c : Nat} (h : Tok μ l c) {j : J} {s cut : ByteArray} (hs : RL μ j l (s.data.toList.map fun b => Value.int .u8 b.toNat)) (hc : cut.data.toList = [48, 49, 50, 51, 52, 53, 54, 55, 56, 57]) (W : World) :
    Calls Tryz.prog 207 [Value.string s, Value.string cut].toArray W fun e w' => e = .returned (.string ⟨#[]⟩) ∧ Below W.heap.size W w' := by
  have hl := h.digits hs
  obtain ⟨_, h2, h3⟩ := h.atoi
  have hz : s.size ≤ 18 := by
    have a1 : s.size = s.data.toList.length := by simp
    rw [a1, hl]; omega
  have hk : cut.size = 10 := by
    have a1 : cut.size = cut.data.toList.length := by simp
    rw [a1, hc]; rfl
  refine (Any.strings_Trim_laid Tryz.lays160 (by kernel_rfl) s cut W (by omega) (by omega) (by rw [hc]; exact ascii_of_all (by decide))).mono ?_
  rintro e w' ⟨rfl, hb⟩
  refine ⟨?_, hb⟩
  rw [hl, hc, h3]
theorem orcT_ok (h : AwakeRuns) {q : Nat} {x y z : Int} {b : Value} {wi n k : Nat} (hN : Nums q x y z b wi n k) {W : World} (hm : Known W) (hp : Pow W) : OrcOK Tryz.prog (muV (vsT q x y z b wi n k) W) (orcT q) := by
  have h5 := hN.w5
  have hn0 := hN.n0
  have hn1 := hN.n1
  have hk1 := hN.k1
  have hw0 := hN.w0
  have hw1 := hN.w1
  intro f args y' hy j w vs hh hv
  have hP : Pow w := hp.held fun o ho => hh _ _ ⟨by simp, ho⟩
  unfold orcT at hy
  split at hy
  · rename_i hf
    obtain rfl := Nat.eq_of_beq_eq_true hf
    split at hy
    · cases hy
      obtain ⟨v, t, rfl, g1, g2⟩ := hv
      obtain ⟨v2, t2, rfl, g3, g4⟩ := g2
      cases g1
      cases g3
      cases g4
      refine ⟨⟨Tryz.f5, Tryz.func5, rfl, by decide +kernel⟩, (low_at (x := x) (n := 10000) (v := (wi : Int) - 1) (by decide) (by decide) hN.hx (by omega) w).mono ?_⟩
      rintro e w' ⟨rfl, rfl⟩
      exact ⟨_, rfl, ⟨_, .of (d0 := .i64) rfl (by decide), rfl, by omega, by omega⟩, Below.refl _ _⟩
    · cases hy
      obtain ⟨v, t, rfl, g1, g2⟩ := hv
      obtain ⟨v2, t2, rfl, g3, g4⟩ := g2
      cases g1
      cases g3
      cases g4
      refine ⟨⟨Tryz.f5, Tryz.func5, rfl, by decide +kernel⟩, (low_at (x := y) (n := 9) (v := (n : Int) - 1) (by decide) (by decide) hN.hy (by omega) w).mono ?_⟩
      rintro e w' ⟨rfl, rfl⟩
      exact ⟨_, rfl, ⟨_, .of (d0 := .i64) rfl (by decide), rfl, by omega, by omega⟩, Below.refl _ _⟩
    · cases hy
      obtain ⟨v, t, rfl, g1, g2⟩ := hv
      obtain ⟨v2, t2, rfl, g3, g4⟩ := g2
      cases g1
      cases g3
      cases g4
      refine ⟨⟨Tryz.f5, Tryz.func5, rfl, by decide +kernel⟩, (low_at (x := z) (n := 10) (v := (k : Int)) (by decide) (by decide) hN.hz rfl w).mono ?_⟩
      rintro e w' ⟨rfl, rfl⟩
      exact ⟨_, rfl, ⟨_, .of (d0 := .i64) rfl (by decide), rfl, by omega, by omega⟩, Below.refl _ _⟩
    · cases hy
  · split at hy
    · rename_i hf
      obtain rfl := Nat.eq_of_beq_eq_true hf
      obtain ⟨c, l', rfl, rfl, ht, hc⟩ := digT_ok hN hy hv
      exact ⟨⟨Tryz.f6, Tryz.func6, rfl, by decide +kernel⟩, dig_at ht hc w j⟩
    · split at hy
      · rename_i hf
        obtain rfl := Nat.eq_of_beq_eq_true hf
        obtain ⟨c, l', rfl, rfl, ht, hc⟩ := digT_ok hN hy hv
        exact ⟨⟨Tryz.f15, Tryz.func15, rfl, by decide +kernel⟩, itoa_at ht hc w hP j⟩
      · split at hy
        · rename_i hf
          obtain rfl := Nat.eq_of_beq_eq_true hf
          split at hy
          · rename_i l v
            split at hy
            · rename_i hh'
              have hv10 := Nat.eq_of_beq_eq_true hh'
              split at hy
              · rename_i a ha
                cases hy
                obtain ⟨v1, t1, rfl, ⟨s, rfl, e1⟩, g2⟩ := hv
                obtain ⟨v2, t2, rfl, ⟨cut, rfl, e2, e3⟩, g4⟩ := g2
                cases g4
                obtain ⟨c, ht, _⟩ := tokT_ok (W := W) (j := j) hN ha
                have hcut : cut.data.toList = [48, 49, 50, 51, 52, 53, 54, 55, 56, 57] := encL_inj (by rw [Array.length_toList]; exact e2) (by rw [e3, hv10]; decide +kernel)
                refine ⟨⟨Tryz.f207, Tryz.func207, rfl, by decide +kernel⟩, (trim_at ht e1 hcut w).mono ?_⟩
                rintro e w' ⟨rfl, hb⟩
                exact ⟨_, rfl, ⟨_, rfl, rfl, rfl⟩, hb⟩
              · cases hy
            · cases hy
          · cases hy
        · split at hy
          · rename_i hf
            obtain rfl := Nat.eq_of_beq_eq_true hf
            split at hy
            · split at hy
              · rename_i a ha
                cases hy
                obtain ⟨v1, t1, rfl, ⟨s, rfl, e1⟩, g2⟩ := hv
                cases g2
                obtain ⟨c, ht, hr⟩ := tokT_ok (W := W) (j := j) hN ha
                refine ⟨⟨Tryz.f206, Tryz.func206, rfl, by decide +kernel⟩, (atoi_at ht e1 w).mono ?_⟩
                rintro e w' ⟨rfl, hb⟩
                exact ⟨_, rfl, ⟨_, rfl, _, _, rfl, hr, _, _, rfl, rfl, rfl⟩, hb⟩
              · cases hy
            · cases hy
          · split at hy
            · rename_i hf
              obtain rfl := Nat.eq_of_beq_eq_true hf
              split at hy
              · cases hy
                cases hv
                refine ⟨⟨Tryz.f4, Tryz.func4, rfl, by decide +kernel⟩, (awake_any h hm w fun g o hg => hh g o hg).mono ?_⟩
                rintro e w' ⟨rfl, hb⟩
                exact ⟨_, rfl, rfl, hb⟩
              · cases hy
            · split at hy
              · rename_i hf
                obtain rfl := Nat.eq_of_beq_eq_true hf
                split at hy
                · rename_i n v m' u
                  exact orcI_ok _ hm 149 [.s n v, .s m' u] y' (by unfold orcI; exact hy) j w vs hh hv
                · rename_i l m' u
                  obtain ⟨v1, t1, rfl, ⟨s, rfl, e1⟩, g2⟩ := hv
                  obtain ⟨v2, t2, rfl, ⟨sub, rfl, e2, e3⟩, g4⟩ := g2
                  cases g4
                  subst e2
                  subst e3
                  obtain ⟨hz, rfl⟩ := idxMV_ok e1 hy
                  obtain ⟨m, hcl⟩ := hm.idx
                  refine ⟨⟨Tryz.f149, Tryz.func149, rfl, by decide +kernel⟩, (Tryz.stringslite_Index s sub m w (by omega) (hh.cell (by simp) hcl)).mono ?_⟩
                  rintro e w' ⟨rfl, rfl⟩
                  exact ⟨_, rfl, rfl, Below.refl _ _⟩
                · cases hy
              · cases hy
end Go.Proofs.YtpflpjkbiopmpaaGreatDoor
