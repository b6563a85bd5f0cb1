/-
  hand.prefix: what it computes ('prefS').
-/
import Derived.Test.YtabdhfpohodohaaDoorHandB
import Derived.Test.YtabdhfpohodohaaDoorMem
namespace Go.Proofs.YtabdhfpohodohaaDoor
open Go.RowKit

/-- how a %TAG directive of a handle begins. -/
def patS (h : ByteArray) : ByteArray := (⟨#[37, 84, 65, 71, 32]⟩ ++ h) ++ ⟨#[32]⟩
/-- what stands for a handle without a directive. -/
def lone (h : ByteArray) : ByteArray × Bool :=
  if h.toList == [33] then (⟨#[33]⟩, true) else if h.toList == [33, 33] then (mkS [116, 97, 103, 58, 121, 97, 109, 108, 46, 111, 114, 103, 44, 50, 48, 48, 50, 58], true) else (⟨#[]⟩, false)
def prefS (h : ByteArray) : List ByteArray → ByteArray × Bool
  | [] => lone h
  | d :: r => if preS d (patS h) = true then (cutS d (patS h), true) else prefS h r

/-- what a call hands back, behind names that the walk's simp does not open. -/
def RetSB (P : ByteArray → Bool → Prop) (w : World) (e : Ending) (w' : World) : Prop := ∃ (r : ByteArray) (b : Bool), e = .returned (.tuple #[.string r, .bool b]) ∧ P r b ∧ w = w'
theorem RetSB.mk {P : ByteArray → Bool → Prop} {w : World} (r : ByteArray) (b : Bool) (h : P r b) : RetSB P w (.returned (.tuple #[.string r, .bool b])) w := ⟨r, b, rfl, h, rfl⟩

/-- a slice of strings. -/
def ReadsS (w : World) (B : Nat) (A : Option Addr) (n : Nat) (ss : List ByteArray) : Prop := Reads w B 1 A n (ss.map Value.string)

theorem ReadsS.at_ {w : World} {B : Nat} {A : Option Addr} {n k : Nat} {ss : List ByteArray} (h : ReadsS w B A n ss) (hk : k < n) :
    ∃ (ad : Addr) (d : ByteArray), A = some ad ∧ ad.block < B ∧ Hid (ss[k]? = some d) ∧ w.cell? (ad.add k) = some (.string d) := by
  obtain ⟨ad, u, rfl, hb, hx, hc⟩ := Reads.at_ h hk
  rw [List.getElem?_map] at hx
  obtain ⟨d, hd, rfl⟩ := Option.map_eq_some_iff.1 hx
  exact ⟨ad, d, rfl, hb, Lib.hid hd, hc⟩
theorem ReadsS.length {w : World} {B : Nat} {A : Option Addr} {n : Nat} {ss : List ByteArray} (h : ReadsS w B A n ss) : ss.length = n := by
  have := h.1; simpa using this

set_option maxHeartbeats 1000000 in
theorem long_any (s : ByteArray) (w : World) (hs : s.size ≤ 140737488355328) :
    Calls Tryd.prog 14 #[.string s] w fun e w' => e = .returned (.string (⟨#[116, 97, 103, 58, 121, 97, 109, 108, 46, 111, 114, 103, 44, 50, 48, 48, 50, 58]⟩ ++ s)) ∧ w = w' := by
  go_enter Tryd.func14, Tryd.ntmps14
  go_wp2
  go_ret
  exact ⟨rfl, rfl⟩

theorem prefS_step (h : ByteArray) (ss : List ByteArray) (k : Nat) (d : ByteArray) (hd : ss[k]? = some d) :
    prefS h (ss.drop k) = if preS d (patS h) = true then (cutS d (patS h), true) else prefS h (ss.drop (k + 1)) := by
  obtain ⟨hk, rfl⟩ := List.getElem?_eq_some_iff.1 hd
  rw [List.drop_eq_getElem_cons hk, prefS]

set_option maxRecDepth 100000 in
set_option maxHeartbeats 400000 in
theorem prefix_any (A : Option Addr) (n c : Nat) (ss : List ByteArray) (h : ByteArray) (w : World) (hn : n ≤ 140737488355328) (hr : ReadsS w w.heap.size A n ss) (hsz : Hid (∀ d ∈ ss, d.size ≤ 140737488355328)) (hs : h.size ≤ 140737488355328) :
    Calls Tryd.prog 20 #[.slice A n c, .string h] w (RetSB (fun r b => Hid ((r, b) = prefS h ss) ∧ r.size ≤ 140737488355328) w) := by
  go_enter Tryd.func20, Tryd.ntmps20
  go_wp2
  go_loop [7, 8, 9, 12] (fun _ _ _ i => ∃ k : Nat, k ≤ n ∧ i = .int .i64 k ∧ Hid (prefS h ss = prefS h (ss.drop k))) (fun _ _ _ i => n - (intOf i).toNat)
  case atStart => exact ⟨0, Nat.zero_le _, rfl, Lib.hid rfl⟩
  case round =>
    obtain ⟨k, hk, rfl, HR⟩ := hrel
    by_cases hlt : k < n
    · obtain ⟨ad, d, rfl, _, Hd, hc⟩ := ReadsS.at_ hr hlt
      have hd : d.size ≤ 140737488355328 := hsz.out d (List.mem_of_getElem? Hd.out)
      go_wp2_with (first | (go_at_call 17; refine (cutPrefix_any _ _ _).mono ?_; rintro e w' ⟨r, b, rfl, Hrb, hr, rfl⟩; (try simp only [ByteArray.size_extract] at hr)))
      · have hb : b = true := by assumption
        go_ret2
        refine RetSB.mk r true ⟨Lib.hid ?_, by omega⟩
        obtain ⟨h1, h2⟩ := Hrb.out
        rw [HR.out, prefS_step h ss k d Hd.out, patS, ← h1, ← h2, if_pos hb]
      · have hb : b = false := by assumption
        refine ⟨⟨k + 1, by omega, by go_num, Lib.hid ?_⟩, by simp [intOf]; omega⟩
        obtain ⟨h1, h2⟩ := Hrb.out
        rw [HR.out, prefS_step h ss k d Hd.out, patS, ← h1, ← h2, if_neg (by simp [hb])]
    · have HE : Hid (prefS h ss = lone h) := Lib.hid (by rw [HR.out, List.drop_eq_nil_of_le (by rw [ReadsS.length hr]; omega)]; rfl)
      go_wp2_with (first | (go_at_call 14; refine (long_any _ _ (by decide)).mono ?_; rintro e w' ⟨rfl, rfl⟩))
      · have h1 : (h.toList == [33]) = true := by assumption
        go_ret2
        exact RetSB.mk _ _ ⟨Lib.hid (by rw [HE.out, lone, if_pos h1]), by decide⟩
      · have h1 : (h.toList == [33]) = false := by assumption
        have h2 : (h.toList == [33, 33]) = true := by assumption
        go_ret2
        exact RetSB.mk _ _ ⟨Lib.hid (by rw [HE.out, lone, if_neg (by simp [h1]), if_pos h2]; rfl), by decide⟩
      · have h1 : (h.toList == [33]) = false := by assumption
        have h2 : (h.toList == [33, 33]) = false := by assumption
        go_ret2
        exact RetSB.mk _ _ ⟨Lib.hid (by rw [HE.out, lone, if_neg (by simp [h1]), if_neg (by simp [h2])]), by decide⟩
end Go.Proofs.YtabdhfpohodohaaDoor
