/-
  Numbers of which only bounds are known: their digits. No program is named here.
-/
import Derived.Test.YtpflpjkbiopmpaaGreatDoorEvX
import Derived.Lib.Atoi
import Derived.Lib.ItoaNum
import Derived.Lib.SlTrimSet
set_option linter.unusedVariables false
set_option linter.unusedSimpArgs false
set_option linter.unnecessarySimpa false
set_option linter.all false
namespace Go.Proofs.YtpflpjkbiopmpaaGreatDoor.Ev
open Go Go.RowKit
/-- digits as bytes. -/
def dgB : List Nat → List UInt8
  | [] => []
  | d :: r => UInt8.ofNat (48 + d) :: dgB r
def AllDg : List Nat → Prop
  | [] => True
  | d :: r => d < 10 ∧ AllDg r
def numL (acc : Nat) : List Nat → Nat
  | [] => acc
  | d :: r => numL (acc * 10 + d) r
theorem dg_toNat {d : Nat} (h : d < 10) : (UInt8.ofNat (48 + d)).toNat = 48 + d := by
  rw [UInt8.toNat_ofNat', Nat.mod_eq_of_lt (by omega)]
theorem dgB_length : ∀ l : List Nat, (dgB l).length = l.length
  | [] => rfl
  | _ :: r => by simp [dgB, dgB_length r]
theorem decFrom_dgB : ∀ (l : List Nat) (acc : Nat), AllDg l → Lib.decFrom acc (dgB l) = some (numL acc l)
  | [], acc, _ => rfl
  | d :: r, acc, h => by
    have e : Lib.digitVal (UInt8.ofNat (48 + d)) = some d := by
      unfold Lib.digitVal
      rw [dg_toNat h.1, if_pos ⟨by omega, by have := h.1; omega⟩]
      simp
    show Lib.decFrom acc (UInt8.ofNat (48 + d) :: dgB r) = _
    simp only [Lib.decFrom, e]
    exact decFrom_dgB r _ h.2
theorem atoi_dgB (d : Nat) (r : List Nat) (h : AllDg (d :: r)) : Lib.atoi (dgB (d :: r)) = some ((numL 0 (d :: r) : Nat) : Int) := by
  have e := decFrom_dgB (d :: r) 0 h
  have hn := dg_toNat h.1
  have h45 : ¬ (UInt8.ofNat (48 + d) == 45) = true := by
    intro hh
    have := congrArg UInt8.toNat (beq_iff_eq.mp hh)
    rw [hn] at this
    have : (45 : UInt8).toNat = 45 := rfl
    omega
  have h43 : ¬ (UInt8.ofNat (48 + d) == 43) = true := by
    intro hh
    have := congrArg UInt8.toNat (beq_iff_eq.mp hh)
    rw [hn] at this
    have : (43 : UInt8).toNat = 43 := rfl
    omega
  show Lib.atoi (UInt8.ofNat (48 + d) :: dgB r) = _
  have e2 : Lib.decNat (UInt8.ofNat (48 + d) :: dgB r) = some (numL 0 (d :: r)) := by
    unfold Lib.decNat
    exact e
  simp only [Lib.atoi]
  rw [if_neg h45, if_neg h43, e2]
  rfl
theorem dg_in (d : Nat) (h : d < 10) : ([48, 49, 50, 51, 52, 53, 54, 55, 56, 57] : List UInt8).contains (UInt8.ofNat (48 + d)) = true := by
  have : ∀ d : Nat, d < 10 → ([48, 49, 50, 51, 52, 53, 54, 55, 56, 57] : List UInt8).contains (UInt8.ofNat (48 + d)) = true := by decide +kernel
  exact this d h
theorem dgB_in : ∀ (l : List Nat), AllDg l → ∀ b ∈ dgB l, ([48, 49, 50, 51, 52, 53, 54, 55, 56, 57] : List UInt8).contains b = true
  | [], _, b, hb => by cases hb
  | d :: r, h, b, hb => by
    rcases List.mem_cons.mp hb with rfl | hb
    · exact dg_in d h.1
    · exact dgB_in r h.2 b hb
theorem dropWhile_all {p : UInt8 → Bool} : ∀ l : List UInt8, (∀ b ∈ l, p b = true) → l.dropWhile p = []
  | [], _ => rfl
  | b :: r, h => by
    rw [List.dropWhile_cons, if_pos (h b (by simp))]
    exact dropWhile_all r fun x hx => h x (by simp [hx])
theorem trim_dgB (l : List Nat) (h : AllDg l) : Lib.trimS (dgB l) [48, 49, 50, 51, 52, 53, 54, 55, 56, 57] = [] := by
  have e : Lib.trimRightS (dgB l) [48, 49, 50, 51, 52, 53, 54, 55, 56, 57] = [] := by
    unfold Lib.trimRightS
    rw [dropWhile_all _ fun b hb => dgB_in l h b (by simpa using hb)]
    rfl
  unfold Lib.trimS
  rw [e]; rfl
/-- the digits of a number of so many. -/
def digN : Nat → Nat → List Nat
  | 1, c => [c]
  | 2, c => [c / 10, c % 10]
  | 3, c => [c / 100, c / 10 % 10, c % 10]
  | _, c => [c / 1000, c / 100 % 10, c / 10 % 10, c % 10]
/-- what is known of them. -/
def dsL : Nat → List AV
  | 1 => [.mr 3 .u8 49 57]
  | 2 => [.mr 3 .u8 49 57, .mr 4 .u8 48 57]
  | 3 => [.mr 3 .u8 49 57, .mr 4 .u8 48 57, .mr 5 .u8 48 57]
  | _ => [.mr 3 .u8 49 57, .mr 4 .u8 48 57, .mr 5 .u8 48 57, .mr 6 .u8 48 57]
def lowN : Nat → Nat
  | 1 => 1
  | 2 => 10
  | 3 => 100
  | _ => 1000
def higN : Nat → Nat
  | 1 => 9
  | 2 => 99
  | 3 => 999
  | _ => 9999
theorem dec_big (m : Nat) (h : ¬ m < 10) : Lib.decDigits m = Lib.decDigits (m / 10) ++ [UInt8.ofNat (48 + m % 10)] := by rw [Lib.decDigits, dif_neg h]
theorem decDigits_digN (w c : Nat) (h0 : lowN w ≤ c) (h1 : c ≤ higN w) : Lib.decDigits c = dgB (digN w c) := by
  match w, h0, h1 with
  | 0, h0, h1 =>
    have a : 1000 ≤ c := h0
    have b : c ≤ 9999 := h1
    rw [dec_big c (by omega), dec_big (c / 10) (by omega), dec_big (c / 10 / 10) (by omega), Lib.decDigits_one (i := c / 10 / 10 / 10) (by omega)]
    have e1 : c / 10 / 10 / 10 = c / 1000 := by omega
    have e2 : c / 10 / 10 = c / 100 := by omega
    rw [e1, e2]; rfl
  | 1, h0, h1 =>
    have b : c ≤ 9 := h1
    exact Lib.decDigits_one (by omega)
  | 2, h0, h1 =>
    have a : 10 ≤ c := h0
    have b : c ≤ 99 := h1
    exact Lib.decDigits_two (by omega) (by omega)
  | 3, h0, h1 =>
    have a : 100 ≤ c := h0
    have b : c ≤ 999 := h1
    rw [dec_big c (by omega), dec_big (c / 10) (by omega), Lib.decDigits_one (i := c / 10 / 10) (by omega)]
    have e2 : c / 10 / 10 = c / 100 := by omega
    rw [e2]; rfl
  | n + 4, h0, h1 =>
    have a : 1000 ≤ c := h0
    have b : c ≤ 9999 := h1
    rw [dec_big c (by omega), dec_big (c / 10) (by omega), dec_big (c / 10 / 10) (by omega), Lib.decDigits_one (i := c / 10 / 10 / 10) (by omega)]
    have e1 : c / 10 / 10 / 10 = c / 1000 := by omega
    have e2 : c / 10 / 10 = c / 100 := by omega
    rw [e1, e2]; rfl
theorem digN_ok (w c : Nat) (h0 : lowN w ≤ c) (h1 : c ≤ higN w) : ∃ d r, digN w c = d :: r ∧ AllDg (d :: r) ∧ numL 0 (d :: r) = c := by
  match w, h0, h1 with
  | 0, h0, h1 =>
    have a : 1000 ≤ c := h0
    have b : c ≤ 9999 := h1
    exact ⟨_, _, rfl, ⟨by omega, by omega, by omega, by omega, trivial⟩, by simp only [numL]; omega⟩
  | 1, h0, h1 =>
    have b : c ≤ 9 := h1
    exact ⟨_, _, rfl, ⟨by omega, trivial⟩, by simp only [numL]; omega⟩
  | 2, h0, h1 =>
    have a : 10 ≤ c := h0
    have b : c ≤ 99 := h1
    exact ⟨_, _, rfl, ⟨by omega, by omega, trivial⟩, by simp only [numL]; omega⟩
  | 3, h0, h1 =>
    have a : 100 ≤ c := h0
    have b : c ≤ 999 := h1
    exact ⟨_, _, rfl, ⟨by omega, by omega, by omega, trivial⟩, by simp only [numL]; omega⟩
  | n + 4, h0, h1 =>
    have a : 1000 ≤ c := h0
    have b : c ≤ 9999 := h1
    exact ⟨_, _, rfl, ⟨by omega, by omega, by omega, by omega, trivial⟩, by simp only [numL]; omega⟩
/-- what the markers stand for: two numbers; the third's value; its digits. -/
def xsN (w : Nat) (x y : Int) (c : Nat) : Nat → Int
  | 0 => x
  | 1 => y
  | 2 => c
  | k + 3 => 48 + ((digN w c)[k]?.getD 0 : Nat)
theorem rl_mr {μ : Mu} {j : J} {k d lo hi : Nat} {l : List AV} {bs : List UInt8} (hv : mrV μ k (48 + (d : Int))) (hd : d < 10) (hlo : lo ≤ 48 + d) (hhi : 48 + d ≤ hi) (h : RL μ j l (bs.map fun b => Value.int .u8 b.toNat)) :
    RL μ j (.mr k .u8 lo hi :: l) ((UInt8.ofNat (48 + d) :: bs).map fun b => Value.int .u8 b.toNat) := by
  refine ⟨.int .u8 (UInt8.ofNat (48 + d)).toNat, _, rfl, ⟨48 + (d : Int), hv, ?_, by omega, by omega⟩, h⟩
  rw [dg_toNat hd]
  rfl
theorem rl_dsL {μ : Mu} {j : J} {w c : Nat} {x y : Int} (hv : ∀ k, μ.val k = .int .i64 (xsN w x y c k)) (h0 : lowN w ≤ c) (h1 : c ≤ higN w) : RL μ j (dsL w) ((dgB (digN w c)).map fun b => Value.int .u8 b.toNat) := by
  match w, hv, h0, h1 with
  | 0, hv, h0, h1 =>
    have a : 1000 ≤ c := h0
    have b : c ≤ 9999 := h1
    exact rl_mr (.of (hv 3) (by decide)) (by omega) (by omega) (by omega) (rl_mr (.of (hv 4) (by decide)) (by omega) (by omega) (by omega) (rl_mr (.of (hv 5) (by decide)) (by omega) (by omega) (by omega) (rl_mr (.of (hv 6) (by decide)) (by omega) (by omega) (by omega) rfl)))
  | 1, hv, h0, h1 =>
    have a : 1 ≤ c := h0
    have b : c ≤ 9 := h1
    exact rl_mr (.of (hv 3) (by decide)) (by omega) (by omega) (by omega) rfl
  | 2, hv, h0, h1 =>
    have a : 10 ≤ c := h0
    have b : c ≤ 99 := h1
    exact rl_mr (.of (hv 3) (by decide)) (by omega) (by omega) (by omega) (rl_mr (.of (hv 4) (by decide)) (by omega) (by omega) (by omega) rfl)
  | 3, hv, h0, h1 =>
    have a : 100 ≤ c := h0
    have b : c ≤ 999 := h1
    exact rl_mr (.of (hv 3) (by decide)) (by omega) (by omega) (by omega) (rl_mr (.of (hv 4) (by decide)) (by omega) (by omega) (by omega) (rl_mr (.of (hv 5) (by decide)) (by omega) (by omega) (by omega) rfl))
  | n + 4, hv, h0, h1 =>
    have a : 1000 ≤ c := h0
    have b : c ≤ 9999 := h1
    exact rl_mr (.of (hv 3) (by decide)) (by omega) (by omega) (by omega) (rl_mr (.of (hv 4) (by decide)) (by omega) (by omega) (by omega) (rl_mr (.of (hv 5) (by decide)) (by omega) (by omega) (by omega) (rl_mr (.of (hv 6) (by decide)) (by omega) (by omega) (by omega) rfl)))
/-- are two rows of markers the same. -/
def sameMr : List AV → List AV → Bool
  | [], [] => true
  | .mr k .u8 a b :: r, .mr k' .u8 a' b' :: r' => Nat.beq k k' && (Nat.beq a a' && (Nat.beq b b' && sameMr r r'))
  | _, _ => false
theorem sameMr_eq : ∀ {l m : List AV}, sameMr l m = true → l = m
  | [], [], _ => rfl
  | .mr k .u8 a b :: r, .mr k' .u8 a' b' :: r', h => by
    simp only [sameMr, Bool.and_eq_true] at h
    obtain ⟨h1, h2, h3, h4⟩ := h
    rw [Nat.eq_of_beq_eq_true h1, Nat.eq_of_beq_eq_true h2, Nat.eq_of_beq_eq_true h3, sameMr_eq h4]
def allMr : List AV → Bool
  | [] => true
  | .mr _ _ _ _ :: r => allMr r
  | _ => false
theorem allMr_dsL (q : Nat) : allMr (dsL q) = true := by unfold dsL; split <;> rfl
theorem rl_inj {μ : Mu} {j : J} : ∀ {l : List AV} {v1 v2 : List Value}, allMr l = true → RL μ j l v1 → RL μ j l v2 → v1 = v2
  | [], v1, v2, _, h1, h2 => (show v1 = [] from h1).trans (show v2 = [] from h2).symm
  | .mr k d lo hi :: r, v1, v2, ha, h1, h2 => by
    obtain ⟨a, t, rfl, ⟨n, e0, rfl, _⟩, ht⟩ := h1
    obtain ⟨a', t', rfl, ⟨n', e0', rfl, _⟩, ht'⟩ := h2
    obtain rfl := e0.inj e0'
    have ha' : allMr r = true := ha
    have e : t = t' := rl_inj (l := r) (v1 := t) (v2 := t') ha' ht ht'
    rw [e]
theorem u8_inj : ∀ {a b : List UInt8}, (a.map fun b => Value.int .u8 b.toNat) = (b.map fun b => Value.int .u8 b.toNat) → a = b
  | [], [], _ => rfl
  | [], _ :: _, h => by cases h
  | _ :: _, [], h => by cases h
  | x :: a, y :: b, h => by
    simp only [List.map_cons, List.cons.injEq, Value.int.injEq, true_and] at h
    have e1 : a = b := u8_inj h.2
    have e2 : x = y := UInt8.toNat_inj.mp (by omega)
    rw [e1, e2]
end Go.Proofs.YtpflpjkbiopmpaaGreatDoor.Ev
