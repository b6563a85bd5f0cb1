/-
  Plain laws for HandWhole: what a tag's size tells is a tag, whole; with a blank behind it is as long.
-/
import Derived.Test.YtabdhfpohodohaaDoorHandP
namespace Go.Proofs.YtabdhfpohodohaaDoor
open Go.RowKit

theorem uris_hex' {c : UInt8} (h : hexB c = true) (t : Bool) (r : Bs) : urisL t (c :: r) = urisL t r + 1 := by
  have tab : ∀ n : Nat, n < 256 → hexZ (n : Int) = true → uriZ (n : Int) = true ∧ n ≠ 37 ∧ n ≠ 33 ∧ flowZ (n : Int) = false := by decide +kernel
  obtain ⟨h1, h2, h3, h4⟩ := tab _ c.toNat_lt h
  have e37 : c ≠ 37 := fun e => h2 (by rw [e]; rfl)
  have e33 : c ≠ 33 := fun e => h3 (by rw [e]; rfl)
  rw [urisL, if_pos]
  simp [uriB, h1, flowB, h4, e37, e33]

theorem uris_take (b : Bool) (l x : Bs) (hx : urisL b x = 0) : urisL b (l.take (urisL b l) ++ x) = urisL b l := by
  induction l with
  | nil => simpa [urisL] using hx
  | cons c r ih =>
    by_cases hc : (uriB c && (c != 37 || percentL (c :: r)) && !(b && (c == 33 || flowB c))) = true
    · have e : urisL b (c :: r) = urisL b r + 1 := by rw [urisL, if_pos hc]
      rw [e, List.take_succ_cons, List.cons_append, urisL, if_pos, ih]
      simp only [Bool.and_eq_true, Bool.or_eq_true] at hc ⊢
      refine ⟨⟨hc.1.1, ?_⟩, hc.2⟩
      rcases hc.1.2 with h | h
      · exact .inl h
      · refine .inr ?_
        match r, h with
        | a :: d :: r', h =>
          have h' : hexB a = true ∧ hexB d = true := by simpa [percentL] using h
          rw [uris_hex' h'.1, uris_hex' h'.2, List.take_succ_cons, List.take_succ_cons]
          exact h
    · have e : urisL b (c :: r) = 0 := by rw [urisL, if_neg hc]
      rw [e]; simpa using hx

theorem words_take (l y : Bs) (n : Nat) (hn : wordsL l < n) (hl : wordsL l < l.length) : wordsL (l.take n ++ y) = wordsL l := by
  induction l generalizing n with
  | nil => simp at hl
  | cons c r ih =>
    cases n with
    | zero => omega
    | succ n =>
      rw [List.take_succ_cons, List.cons_append, wordsL, wordsL]
      by_cases hc : wordB c = true
      · rw [if_pos hc, if_pos hc]
        rw [wordsL, if_pos hc] at hn hl
        rw [ih n (by omega) (by simp at hl; omega)]
      · rw [if_neg hc, if_neg hc]

theorem handle_pos (l : Bs) (h : 0 < handleL l) : handleL l = wordsL (l.drop 1) + 2 ∧ l[1 + wordsL (l.drop 1)]? = some 33 := by
  unfold handleL at h ⊢
  split at h
  · rename_i hc
    rw [if_pos hc]
    exact ⟨by omega, hc⟩
  · omega
/-- a handle is told by its own bytes. -/
theorem handle_take (l y : Bs) (h : 0 < handleL l) : handleL (l.take (handleL l) ++ y) = handleL l := by
  obtain ⟨h1, h2⟩ := handle_pos l h
  have hlt := (List.getElem?_eq_some_iff.1 h2).1
  have hw : wordsL ((l.take (handleL l) ++ y).drop 1) = wordsL (l.drop 1) := by
    rw [List.drop_append_of_le_length (by rw [List.length_take]; omega), List.drop_take]
    exact words_take _ _ _ (by omega) (by rw [List.length_drop]; omega)
  have hc : (l.take (handleL l) ++ y)[1 + wordsL (l.drop 1)]? = some 33 := by
    rw [List.getElem?_append_left (by rw [List.length_take]; omega), List.getElem?_take_of_lt (by omega)]
    exact h2
  rw [handleL, hw, if_pos hc]
  omega

/-- nothing, or a blank with an x behind it. -/
def Tail (x : Bs) : Prop := x = [] ∨ x = [32, 120]
theorem tail_uris {x : Bs} (h : Tail x) (b : Bool) : urisL b x = 0 := by
  rcases h with rfl | rfl
  · rfl
  · rw [urisL, if_neg]
    simp only [Bool.and_eq_true]
    intro h
    exact absurd h.1.1 (by decide)
theorem tail_33 {x : Bs} (h : Tail x) : (33 : UInt8) ∉ x := by
  rcases h with rfl | rfl
  · simp
  · decide
theorem tail_60 {x : Bs} (h : Tail x) : x[0]? ≠ some 60 := by
  rcases h with rfl | rfl
  · simp
  · decide

theorem uri_not60 : uriB 60 = false := by decide
theorem uri_not62 : uriB 62 = false := by decide

theorem size_whole (r x : Bs) (hx : Tail x) : 1 ≤ sizeL (33 :: r) ∧ sizeL (33 :: r) ≤ (33 :: r).length ∧ sizeL ((33 :: r).take (sizeL (33 :: r)) ++ x) = sizeL (33 :: r) := by
  by_cases h1 : (33 :: r : Bs)[1]? = some 60 ∧ 0 < urisL false ((33 :: r).drop 2) ∧ (33 :: r : Bs)[2 + urisL false ((33 :: r).drop 2)]? = some 62
  · have e : sizeL (33 :: r) = urisL false ((33 :: r).drop 2) + 3 := by rw [sizeL, if_neg (by simp), if_pos h1]
    have hlt := (List.getElem?_eq_some_iff.1 h1.2.2).1
    refine ⟨by omega, by omega, ?_⟩
    rw [e]
    match r, h1 with
    | d :: r, h1 =>
      have hd : d = 60 := by simpa using h1.1
      subst hd
      have h2 : 0 < urisL false r := h1.2.1
      have h3 : r[urisL false r]? = some 62 := by
        have := h1.2.2
        rw [show (33 :: 60 :: r : Bs).drop 2 = r from rfl, show 2 + urisL false r = urisL false r + 1 + 1 from by omega, List.getElem?_cons_succ, List.getElem?_cons_succ] at this
        exact this
      rw [show (33 :: 60 :: r : Bs).drop 2 = r from rfl]
      have hu : urisL false (r.take (urisL false r + 1) ++ x) = urisL false r := by
        obtain ⟨hl, he⟩ := List.getElem?_eq_some_iff.1 h3
        rw [List.take_succ_eq_append_getElem hl, he, List.append_assoc]
        refine uris_take false r _ ?_
        rw [List.singleton_append, urisL, if_neg]
        simp only [Bool.and_eq_true]
        intro h
        exact absurd h.1.1 (by decide)
      have e2 : (33 :: 60 :: r : Bs).take (urisL false r + 3) ++ x = 33 :: 60 :: (r.take (urisL false r + 1) ++ x) := rfl
      rw [e2, sizeL, if_neg (by simp), if_pos]
      · rw [show (33 :: 60 :: (r.take (urisL false r + 1) ++ x) : Bs).drop 2 = r.take (urisL false r + 1) ++ x from rfl, hu]
      · rw [show (33 :: 60 :: (r.take (urisL false r + 1) ++ x) : Bs).drop 2 = r.take (urisL false r + 1) ++ x from rfl, hu]
        refine ⟨rfl, h2, ?_⟩
        rw [show 2 + urisL false r = urisL false r + 1 + 1 from by omega, List.getElem?_cons_succ, List.getElem?_cons_succ]
        have hl := (List.getElem?_eq_some_iff.1 h3).1
        rw [List.getElem?_append_left (by simp; omega), List.getElem?_take_of_lt (by omega)]
        exact h3
  · by_cases h2 : 0 < handleL (33 :: r) ∧ 0 < urisL true ((33 :: r).drop (handleL (33 :: r)))
    · have e : sizeL (33 :: r) = handleL (33 :: r) + urisL true ((33 :: r).drop (handleL (33 :: r))) := by rw [sizeL, if_neg (by simp), if_neg h1, if_pos h2]
      obtain ⟨g1, g2⟩ := handle_pos _ h2.1
      have hle := handleL_le (33 :: r)
      have hul := urisL_le true ((33 :: r).drop (handleL (33 :: r)))
      rw [List.length_drop] at hul
      refine ⟨by omega, by omega, ?_⟩
      rw [e, List.take_add, List.append_assoc]
      generalize hy : ((33 :: r).drop (handleL (33 :: r))).take (urisL true ((33 :: r).drop (handleL (33 :: r)))) ++ x = y
      have hh := handle_take (33 :: r) y h2.1
      have hd : ((33 :: r).take (handleL (33 :: r)) ++ y).drop (handleL (33 :: r)) = y := by
        rw [List.drop_append_of_le_length (by rw [List.length_take]; omega), List.drop_take]
        simp
      have hu : urisL true y = urisL true ((33 :: r).drop (handleL (33 :: r))) := by rw [← hy]; exact uris_take true _ x (tail_uris hx true)
      have h60 : ((33 :: r).take (handleL (33 :: r)) ++ y)[1]? ≠ some 60 := by
        rw [List.getElem?_append_left (by rw [List.length_take]; omega), List.getElem?_take_of_lt (by omega)]
        intro h
        have hw : wordsL ((33 :: r).drop 1) = 0 := by
          cases r with
          | nil => rfl
          | cons d r =>
            have hd : d = 60 := by simpa using h
            subst hd
            show wordsL (60 :: r) = 0
            rw [wordsL, if_neg (by decide)]
        rw [hw, Nat.add_zero, h] at g2
        cases g2
      have h33 : ((33 :: r).take (handleL (33 :: r)) ++ y).head? = some 33 := by
        rw [g1]; rfl
      rw [sizeL, if_neg (by rw [h33]; simp), if_neg (fun h => h60 h.1), if_pos (by rw [hh, hd, hu]; exact h2), hh, hd, hu]
    · have e : sizeL (33 :: r) = 1 + urisL true r := by rw [sizeL, if_neg (by simp), if_neg h1, if_neg h2]; rfl
      have hul := urisL_le true r
      refine ⟨by omega, by simp; omega, ?_⟩
      rw [e, show 1 + urisL true r = urisL true r + 1 from by omega, List.take_succ_cons, List.cons_append]
      have hu := uris_take true r x (tail_uris hx true)
      have hall := uris_all true (r.take (urisL true r)) (by
        have := uris_take true r [] rfl
        rw [List.append_nil] at this
        rw [this, List.length_take]; omega)
      have hno : (33 : UInt8) ∉ r.take (urisL true r) ++ x := by
        rw [List.mem_append]
        rintro (h | h)
        · obtain ⟨j, hj, he⟩ := List.getElem_of_mem h
          exact ((hall j hj).2.2 rfl).1 he
        · exact tail_33 hx h
      have h60 : (33 :: (r.take (urisL true r) ++ x) : Bs)[1]? ≠ some 60 := by
        rw [List.getElem?_cons_succ]
        intro h
        cases hk : r.take (urisL true r) with
        | nil => rw [hk] at h; exact tail_60 hx h
        | cons d q =>
          rw [hk] at h
          have hd : d = 60 := by simpa using h
          have := (hall 0 (by rw [hk]; simp)).1
          simp only [hk, List.getElem_cons_zero, hd] at this
          rw [uri_not60] at this
          cases this
      have hh : handleL (33 :: (r.take (urisL true r) ++ x)) = 0 := by
        rw [handleL, if_neg]
        rw [show 1 + wordsL ((33 :: (r.take (urisL true r) ++ x) : Bs).drop 1) = wordsL (r.take (urisL true r) ++ x) + 1 from by rw [Nat.add_comm]; rfl, List.getElem?_cons_succ]
        intro h
        exact hno (List.mem_of_getElem? h)
      rw [sizeL, if_neg (by simp), if_neg (fun h => h60 h.1), if_neg (by rw [hh]; simp)]
      show 1 + urisL true (r.take (urisL true r) ++ x) = urisL true r + 1
      rw [hu]; omega
end Go.Proofs.YtabdhfpohodohaaDoor
