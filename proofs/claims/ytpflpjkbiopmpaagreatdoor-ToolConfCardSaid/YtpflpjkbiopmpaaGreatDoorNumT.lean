/-
  Three numbers of which only bounds are known, and their digits. No program is named here.
-/
import Derived.Test.YtpflpjkbiopmpaaGreatDoorNum
set_option linter.unusedVariables false
set_option linter.unusedSimpArgs false
set_option linter.unnecessarySimpa false
set_option linter.all false
namespace Go.Proofs.YtpflpjkbiopmpaaGreatDoor.Ev
open Go Go.RowKit
/-- a row of markers stands for the digits of a number. -/
structure Tok (μ : Mu) (l : List AV) (c : Nat) : Prop where
  dg : ∃ d r, Lib.decDigits c = dgB (d :: r) ∧ AllDg (d :: r) ∧ numL 0 (d :: r) = c ∧ r.length ≤ 4
  rl : ∀ j, RL μ j l ((Lib.decDigits c).map fun b => Value.int .u8 b.toNat)
  mr : allMr l = true
theorem Tok.digits {μ : Mu} {l : List AV} {c : Nat} (h : Tok μ l c) {j : J} {s : ByteArray} (hs : RL μ j l (s.data.toList.map fun b => Value.int .u8 b.toNat)) : s.data.toList = Lib.decDigits c := u8_inj (rl_inj h.mr hs (h.rl j))
theorem Tok.atoi {μ : Mu} {l : List AV} {c : Nat} (h : Tok μ l c) : Lib.atoi (Lib.decDigits c) = some (c : Int) ∧ (Lib.decDigits c).length ≤ 5 ∧ Lib.trimS (Lib.decDigits c) [48, 49, 50, 51, 52, 53, 54, 55, 56, 57] = [] := by
  obtain ⟨d, r, e1, h1, h2, h3⟩ := h.dg
  rw [e1]
  refine ⟨by rw [atoi_dgB d r h1, h2], ?_, trim_dgB _ h1⟩
  rw [dgB_length]
  simp only [List.length_cons]
  omega
/-- a digit alone. -/
theorem tok_one {μ : Mu} {k c lo hi : Nat} (hv : μ.val k = .int .i64 (48 + (c : Int))) (hk : k < 1048576) (hc : c < 10) (h0 : lo ≤ 48 + c) (h1 : 48 + c ≤ hi) : Tok μ [.mr k .u8 lo hi] c where
  dg := ⟨c, [], Lib.decDigits_one hc, ⟨hc, trivial⟩, by simp [numL], by simp⟩
  rl := fun j => by
    rw [Lib.decDigits_one hc]
    exact rl_mr (bs := []) (.of hv hk) hc h0 h1 rfl
  mr := rfl
/-- the greatest width apart, the digits of a width. -/
def digW : Nat → Nat → List Nat
  | 5, _ => [1, 0, 0, 0, 0]
  | q, c => digN q c
def lowW : Nat → Nat
  | 5 => 10000
  | q => lowN q
def higW : Nat → Nat
  | 5 => 10000
  | q => higN q
/-- what is known of them. -/
def dsW : Nat → List AV
  | 1 => [.mr 6 .u8 49 57]
  | 2 => [.mr 6 .u8 49 57, .mr 7 .u8 48 57]
  | 3 => [.mr 6 .u8 49 57, .mr 7 .u8 48 57, .mr 8 .u8 48 57]
  | 4 => [.mr 6 .u8 49 57, .mr 7 .u8 48 57, .mr 8 .u8 48 57, .mr 9 .u8 48 57]
  | _ => [.mr 6 .u8 49 49, .mr 7 .u8 48 48, .mr 8 .u8 48 48, .mr 9 .u8 48 48, .mr 10 .u8 48 48]
theorem tok_w {μ : Mu} {q c : Nat} (hq : q = 1 ∨ q = 2 ∨ q = 3 ∨ q = 4 ∨ q = 5) (hv : ∀ i d : Nat, (digW q c)[i]? = some d → μ.val (6 + i) = .int .i64 (48 + (d : Int))) (h0 : lowW q ≤ c) (h1 : c ≤ higW q) : Tok μ (dsW q) c := by
  rcases hq with rfl | rfl | rfl | rfl | rfl
  · have a : 1 ≤ c := h0
    have b : c ≤ 9 := h1
    exact tok_one (hv 0 c rfl) (by decide) (by omega) (by omega) (by omega)
  · have a : 10 ≤ c := h0
    have b : c ≤ 99 := h1
    have e := decDigits_digN 2 c a b
    obtain ⟨d, r, e1, h2, h3⟩ := digN_ok 2 c a b
    refine ⟨⟨d, r, by rw [e, e1], h2, h3, ?_⟩, fun j => ?_, rfl⟩
    · have := congrArg List.length e1
      simp [digN] at this; omega
    · rw [e]
      exact rl_mr (.of (hv 0 _ rfl) (by decide)) (by omega) (by omega) (by omega) (rl_mr (.of (hv 1 _ rfl) (by decide)) (by omega) (by omega) (by omega) rfl)
  · have a : 100 ≤ c := h0
    have b : c ≤ 999 := h1
    have e := decDigits_digN 3 c a b
    obtain ⟨d, r, e1, h2, h3⟩ := digN_ok 3 c a b
    refine ⟨⟨d, r, by rw [e, e1], h2, h3, ?_⟩, fun j => ?_, rfl⟩
    · have := congrArg List.length e1
      simp [digN] at this; omega
    · rw [e]
      exact rl_mr (.of (hv 0 _ rfl) (by decide)) (by omega) (by omega) (by omega) (rl_mr (.of (hv 1 _ rfl) (by decide)) (by omega) (by omega) (by omega) (rl_mr (.of (hv 2 _ rfl) (by decide)) (by omega) (by omega) (by omega) rfl))
  · have a : 1000 ≤ c := h0
    have b : c ≤ 9999 := h1
    have e := decDigits_digN 4 c a b
    obtain ⟨d, r, e1, h2, h3⟩ := digN_ok 4 c a b
    refine ⟨⟨d, r, by rw [e, e1], h2, h3, ?_⟩, fun j => ?_, rfl⟩
    · have := congrArg List.length e1
      simp [digN] at this; omega
    · rw [e]
      exact rl_mr (.of (hv 0 _ rfl) (by decide)) (by omega) (by omega) (by omega) (rl_mr (.of (hv 1 _ rfl) (by decide)) (by omega) (by omega) (by omega) (rl_mr (.of (hv 2 _ rfl) (by decide)) (by omega) (by omega) (by omega) (rl_mr (.of (hv 3 _ rfl) (by decide)) (by omega) (by omega) (by omega) rfl)))
  · have a : 10000 ≤ c := h0
    have b : c ≤ 10000 := h1
    obtain rfl : c = 10000 := by omega
    have e : Lib.decDigits 10000 = dgB [1, 0, 0, 0, 0] := by decide +kernel
    refine ⟨⟨1, [0, 0, 0, 0], e, ⟨by omega, by omega, by omega, by omega, by omega, trivial⟩, by decide, by decide⟩, fun j => ?_, rfl⟩
    rw [e]
    exact rl_mr (.of (hv 0 _ rfl) (by decide)) (by omega) (by omega) (by omega) (rl_mr (.of (hv 1 _ rfl) (by decide)) (by omega) (by omega) (by omega) (rl_mr (.of (hv 2 _ rfl) (by decide)) (by omega) (by omega) (by omega) (rl_mr (.of (hv 3 _ rfl) (by decide)) (by omega) (by omega) (by omega) (rl_mr (.of (hv 4 _ rfl) (by decide)) (by omega) (by omega) (by omega) rfl))))
/-- what the markers stand for. -/
def vsT (q : Nat) (x y z : Int) (b : Value) (w n k : Nat) : Nat → Value
  | 0 => .int .i64 x
  | 1 => .int .i64 y
  | 2 => .int .i64 z
  | 3 => .int .i64 ((w : Int) - 1)
  | 4 => .int .i64 ((n : Int) - 1)
  | 5 => .int .i64 (k : Int)
  | 6 => .int .i64 (48 + ((digW q w)[0]?.getD 0 : Nat))
  | 7 => .int .i64 (48 + ((digW q w)[1]?.getD 0 : Nat))
  | 8 => .int .i64 (48 + ((digW q w)[2]?.getD 0 : Nat))
  | 9 => .int .i64 (48 + ((digW q w)[3]?.getD 0 : Nat))
  | 10 => .int .i64 (48 + ((digW q w)[4]?.getD 0 : Nat))
  | 11 => .int .i64 (48 + (n : Int))
  | 12 => .int .i64 (48 + (k : Int))
  | 20 => b
  | 21 => (match b with | .slice _ len _ => .int .i64 len | _ => .int .i64 0)
  | _ => .int .i64 0
theorem vsT_dig {q : Nat} {x y z : Int} {b : Value} {w n k : Nat} : ∀ i d : Nat, (digW q w)[i]? = some d → (digW q w).length ≤ 5 → vsT q x y z b w n k (6 + i) = .int .i64 (48 + (d : Int)) := by
  intro i d h hl
  have hi : i < (digW q w).length := (List.getElem?_eq_some_iff.1 h).1
  match i, h, hi with
  | 0, h, _ => simp only [vsT, h, Option.getD_some]
  | 1, h, _ => simp only [vsT, h, Option.getD_some]
  | 2, h, _ => simp only [vsT, h, Option.getD_some]
  | 3, h, _ => simp only [vsT, h, Option.getD_some]
  | 4, h, _ => simp only [vsT, h, Option.getD_some]
  | i + 5, _, hi => omega
theorem digW_len (q c : Nat) : (digW q c).length ≤ 5 := by
  unfold digW
  split
  · decide
  · unfold digN
    split <;> simp
end Go.Proofs.YtpflpjkbiopmpaaGreatDoor.Ev
