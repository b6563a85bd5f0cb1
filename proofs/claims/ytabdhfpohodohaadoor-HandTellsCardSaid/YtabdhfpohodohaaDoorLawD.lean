/-
  bosketlaw9.HandPrefix returns true.
-/
import Derived.Test.YtabdhfpohodohaaDoorLawC
import Derived.Test.YtabdhfpohodohaaDoorHandR
namespace Go.Proofs.YtabdhfpohodohaaDoor
open Go.RowKit

/-- a slice of ints. -/
def ReadsI (w : World) (B : Nat) (A : Option Addr) (n : Nat) (zs : List Int) : Prop := Reads w B 1 A n (zs.map (Value.int .i64))
theorem ReadsI.at_ {w : World} {B : Nat} {A : Option Addr} {n k : Nat} {zs : List Int} (h : ReadsI w B A n zs) (hk : k < n) :
    ∃ (ad : Addr) (z : Int), A = some ad ∧ ad.block < B ∧ w.cell? (ad.add k) = some (.int .i64 z) := by
  obtain ⟨ad, u, rfl, hb, hx, hc⟩ := Reads.at_ h hk
  rw [List.getElem?_map] at hx
  obtain ⟨d, hd, rfl⟩ := Option.map_eq_some_iff.1 hx
  exact ⟨ad, d, rfl, hb, hc⟩
theorem ReadsI.below {w w' : World} {B n : Nat} {A : Option Addr} {zs : List Int} (h : ReadsI w B A n zs) (hb : Below B w w') : ReadsI w' B A n zs := Reads.below h hb
theorem ReadsS.below {w w' : World} {B n : Nat} {A : Option Addr} {ss : List ByteArray} (h : ReadsS w B A n ss) (hb : Below B w w') : ReadsS w' B A n ss := Reads.below h hb
theorem ReadsS.more {w : World} {B B' n : Nat} {A : Option Addr} {ss : List ByteArray} (h : ReadsS w B A n ss) (hB : B ≤ B') : ReadsS w B' A n ss := Reads.more h hB

theorem reads_three (w : World) (a b c : ByteArray) (t : TypeId) : ReadsS (w.alloc (.cells #[.string a, .string b, .string c] t)) (w.alloc (.cells #[.string a, .string b, .string c] t)).heap.size (some ⟨w.heap.size, 0, none⟩) 3 [a, b, c] := by
  refine ⟨rfl, fun _ => ⟨_, rfl, by simp, fun j u hj => ?_⟩⟩
  match j, hj with
  | 0, hj => simp at hj; subst hj; simp [Addr.add]
  | 1, hj => simp at hj; subst hj; simp [Addr.add]
  | 2, hj => simp at hj; subst hj; simp [Addr.add]

/-- the words' text, so far. -/
def WordsTo (k : Nat) (s : ByteArray) : Prop := ∃ l : Bs, s = mkS l ∧ Plain l ∧ k ≤ l.length ∧ l.length ≤ 3 * k
theorem WordsTo.next {k : Nat} {s : ByteArray} (h : WordsTo k s) (d : Bs) (hd : Plain d) (h1 : 1 ≤ d.length ∧ d.length ≤ 3) : WordsTo (k + 1) (s ++ mkS d) := by
  obtain ⟨l, rfl, hp, ha, hb⟩ := h
  exact ⟨l ++ d, mkS_append _ _, plain_app hp hd, by simp; omega, by simp; omega⟩

theorem full_yes (ss : List ByteArray) (h : Bs) (want : ByteArray) (l : Bs) (hh : HandleOf h) (hp : prefS (mkS h) ss = (want, true)) (hl : Plain l) (h1 : 1 ≤ l.length) : fullS ss (mkS h ++ mkS l) = (want ++ mkS l, 0) := by
  rw [mkS_append, full_tag ss hh (by rintro rfl; simp at h1) (plain_uris true l hl) (plain_33 hl), hp, plain_told l (plain_37 hl), if_pos ⟨rfl, by rw [place_plain hl]; decide⟩]
theorem full_no (ss : List ByteArray) (h : Bs) (l : Bs) (hh : HandleOf h) (hp : (prefS (mkS h) ss).2 = false) (hl : Plain l) (h1 : 1 ≤ l.length) : fullS ss (mkS h ++ mkS l) = (⟨#[]⟩, 8) := by
  rw [mkS_append, full_tag ss hh (by rintro rfl; simp at h1) (plain_uris true l hl) (plain_33 hl), if_neg (fun e => by rw [hp] at e; exact absurd e.1 (by simp))]
theorem uris_app (v l : Bs) (hv : urisL false v = v.length) (hl : Plain l) : urisL false (v ++ l) = (v ++ l).length := by
  have h := fun d (hd : d ∈ v) => hd
  clear h
  induction v with
  | nil => exact plain_uris false l hl
  | cons c r ih =>
    rw [urisL] at hv
    split at hv
    · rename_i hc
      have hr : urisL false r = r.length := by simpa using hv
      rw [List.cons_append, urisL, if_pos, ih hr]
      · rfl
      · simp only [Bool.and_eq_true, Bool.or_eq_true] at hc ⊢
        refine ⟨⟨hc.1.1, ?_⟩, hc.2⟩
        rcases hc.1.2 with h | h
        · exact .inl h
        · refine .inr ?_
          match r, h with
          | a :: b :: q, h => exact h
    · simp at hv
theorem full_verb2 (ss : List ByteArray) (want : Bs) (l : Bs) (hw : urisL false want = want.length) (hl : Plain l) (h1 : 1 ≤ l.length) : fullS ss (mkS [33, 60] ++ mkS want ++ mkS l ++ mkS [62]) = (mkS want ++ mkS l, 0) := by
  rw [mkS_append, mkS_append, mkS_append, mkS_append, show [33, 60] ++ want ++ l ++ [62] = [33, 60] ++ (want ++ l) ++ [62] from by simp, full_verb ss (by rintro e; simp at e; rw [e.2] at h1; simp at h1) (uris_app want l hw hl)]

/-- Full by three directives that lie in a new row. -/
theorem full_three (w : World) (a b d tag r : ByteArray) (k : Int) (t : TypeId) (c : Nat) (h : fullS [a, b, d] tag = (r, k)) (hsz : a.size ≤ 140737488355328 ∧ b.size ≤ 140737488355328 ∧ d.size ≤ 140737488355328) (hs : tag.size ≤ 140737488355327)
    (hT : Lib.Utf8Tabs 3 4 w) (B g : Nat) (hB : B ≤ w.heap.size) (hg : g = w.heap.size) :
    Calls Tryd.prog 10 #[.slice (some ⟨g, 0, none⟩) 3 c, .string tag] (w.alloc (.cells #[.string a, .string b, .string d] t)) fun e w' => e = .returned (.tuple #[.string r, .int .i64 k]) ∧ Below B w w' ∧ ReadsS w' w'.heap.size (some ⟨g, 0, none⟩) 3 [a, b, d] := by
  subst hg
  exact (full_at _ _ _ _ _ _ _ _ h (by omega) (reads_three _ _ _ _ _) (by simpa using hsz) hs (Lib.hid (tabs_below hT ((Below.refl w.heap.size w).alloc (Nat.le_refl _) _)))).mono fun e w' ⟨he, hb⟩ =>
    ⟨he, ((Below.refl B w).alloc hB _).trans (hb.mono (by have : (w.alloc (.cells #[.string a, .string b, .string d] t)).heap.size = w.heap.size + 1 := (by simp); omega)),
      ((reads_three w a b d t).below hb).more hb.size⟩
theorem full_again (w : World) (A : Option Addr) (n c : Nat) (ss : List ByteArray) (tag r : ByteArray) (k : Int) (h : fullS ss tag = (r, k)) (hn : n ≤ 140737488355328) (hR : ReadsS w w.heap.size A n ss) (hsz : ∀ d ∈ ss, d.size ≤ 140737488355328) (hs : tag.size ≤ 140737488355327)
    (hT : Lib.Utf8Tabs 3 4 w) :
    Calls Tryd.prog 10 #[.slice A n c, .string tag] w fun e w' => e = .returned (.tuple #[.string r, .int .i64 k]) ∧ Below w.heap.size w w' :=
  full_at _ _ _ _ _ _ _ _ h hn hR hsz hs (Lib.hid hT)

set_option maxRecDepth 100000 in
set_option maxHeartbeats 4000000 in
theorem prefix_yes (A : Option Addr) (n c : Nat) (zs : List Int) (x : Int) (w : World) (hN : 1 ≤ n ∧ n ≤ 10) (hR : ReadsI w w.heap.size A n zs) (hT : Hid (Lib.Utf8Tabs 3 4 w)) :
    Calls Tryd.prog 5 #[.int .i64 x, .slice A n c, .bool true] w fun e w' => e = .returned (.bool true) ∧ Below w.heap.size w w' := by
  go_enter Tryd.func5, Tryd.ntmps5
  go_wp2_with (first | (go_at_call 9; refine (low_any _ _ _ (by omega) (by omega)).mono ?_; rintro e w' ⟨r, rfl, hr, rfl⟩; obtain rfl | rfl | rfl : r = 0 ∨ r = 1 ∨ r = 2 := by (obtain ⟨a, b⟩ := hr; omega)))
  all_goals (
    go_loopw [9, 10] (fun s i wr => ∃ (k : Nat) (b : ByteArray), k ≤ n ∧ s = .string b ∧ WordsTo k b ∧ i = .int .i64 k ∧ Below w.heap.size w wr) (fun _ i _ => n - (intOf i).toNat)
    case atStart => exact ⟨0, _, Nat.zero_le _, rfl, ⟨[], rfl, by simp [Plain], Nat.le_refl _, Nat.le_refl _⟩, rfl, (Below.refl _ _).alloc (Nat.le_refl _) _⟩
    case round =>
      obtain ⟨k, b, hk, rfl, HW, rfl, hbw⟩ := hrel
      by_cases hlt : k < n
      · obtain ⟨ad, z, rfl, hlb, hc0⟩ := (hR.below hbw).at_ hlt
        have hc : ∀ o, (wr.alloc o).cell? (ad.add k) = some (.int .i64 z) := fun o => (World.cell?_alloc_lt wr o (ad.add k) (by have := hbw.size; rw [block_of_add]; omega)).trans hc0
        have hbs : b.size ≤ 30 := by
          obtain ⟨l, rfl, _, _, h3⟩ := HW
          rw [mkS_size]; omega
        go_wp2_with (first | (go_at_call 9; refine (low_any _ _ _ (by omega) (by omega)).mono ?_; rintro e w' ⟨r, rfl, hr, rfl⟩; obtain rfl | rfl | rfl | rfl | rfl | rfl : r = 0 ∨ r = 1 ∨ r = 2 ∨ r = 3 ∨ r = 4 ∨ r = 5 := by (obtain ⟨a, b⟩ := hr; omega)))
        all_goals exact ⟨⟨k + 1, _, by omega, rfl, HW.next _ (by unfold Plain; decide) (by decide), rfl, hbw.alloc hbw.size _⟩, by simp [intOf]; omega⟩
      · clear hR
        obtain ⟨l, rfl, hp, hl1, hl2⟩ := HW
        have HP := Lib.hid hp
        clear hp
        have hms : (mkS l).size ≤ 30 := by rw [mkS_size]; omega
        go_wp2_with fail
        refine (long_any _ _ (by decide)).mono ?_
        rintro e w' ⟨rfl, rfl⟩
        go_wp2_with fail
        refine (full_three _ _ _ _ _ (⟨#[116, 97, 103, 58, 122, 44, 49, 58]⟩ ++ mkS l) 0 _ _ ?_ ?_ ?_ ?_ w.heap.size _ ?_ ?_).mono ?_
        · exact full_yes _ _ ⟨#[116, 97, 103, 58, 122, 44, 49, 58]⟩ l (by first | exact .inl rfl | exact .inr (.inl rfl) | exact .inr (.inr rfl)) (by decide +kernel) HP.out (by omega)
        · decide +kernel
        · rw [ByteArray.size_append]; exact Nat.le_trans (Nat.add_le_add (show _ ≤ 5 by decide) hms) (by decide)
        · exact tabs_below hT.out (hbw.alloc hbw.size _)
        · have := hbw.size; simp; omega
        · simp
        rintro e w1 ⟨rfl, hb1, hR1⟩
        have hb2 : Below w.heap.size w w1 := (hbw.alloc hbw.size _).trans hb1
        clear hb1
        go_wp2_with fail
        refine (full_again _ _ _ _ _ _ (⟨#[116, 97, 103, 58, 122, 44, 49, 58]⟩ ++ mkS l) 0 ?_ (by decide) hR1 ?_ ?_ ?_).mono ?_
        · exact full_verb2 _ [116, 97, 103, 58, 122, 44, 49, 58] l (by decide) HP.out (by omega)
        · decide +kernel
        · rw [ByteArray.size_append, ByteArray.size_append, ByteArray.size_append]
          show 2 + 8 + _ + 1 ≤ _
          omega
        · exact tabs_below hT.out hb2
        clear hR1
        rintro e w2 ⟨rfl, hb3⟩
        have hb4 : Below w.heap.size w w2 := hb2.trans (hb3.mono hb2.size)
        clear hb3
        go_wp2_with fail
        refine (awake_any _ (Lib.hid (tabs_below hT.out hb4))).mono ?_
        rintro e w3 ⟨rfl, hb5⟩
        go_wp2_with fail
        go_ret
        exact ⟨rfl, hb4.trans (hb5.mono hb4.size)⟩)

end Go.Proofs.YtabdhfpohodohaaDoor
