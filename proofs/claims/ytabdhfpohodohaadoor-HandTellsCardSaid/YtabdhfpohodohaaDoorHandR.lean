/-
  Plain laws for HandPrefix and HandBytes: what Full tells of a tag that is a handle and a suffix, and of one in <>.
-/
import Derived.Test.YtabdhfpohodohaaDoorHandG
import Derived.Test.YtabdhfpohodohaaDoorHandQ
namespace Go.Proofs.YtabdhfpohodohaaDoor
open Go.RowKit

theorem mkS_eq (s : ByteArray) : mkS s.data.toList = s := by
  obtain ⟨⟨l⟩⟩ := s; rfl
theorem mkS_append (a b : Bs) : mkS a ++ mkS b = mkS (a ++ b) := by
  apply ByteArray.ext
  apply Array.toList_inj.1
  rw [ByteArray.data_append, Array.toList_append]; rfl
theorem mkS_toList (l : Bs) : (mkS l).toList = l := by rw [Lib.toList_data]; rfl

/-- the three handles. -/
def HandleOf (h : Bs) : Prop := h = [33] ∨ h = [33, 33] ∨ h = [33, 101, 45, 49, 33]
theorem uris_no60 {t : Bool} {r : Bs} : urisL t (60 :: r) = 0 := by
  rw [urisL, if_neg]
  simp [uri_not60]
theorem uris_no62 {t : Bool} {r : Bs} : urisL t (62 :: r) = 0 := by
  rw [urisL, if_neg]
  simp [uri_not62]

theorem tag_size {h s : Bs} (hh : HandleOf h) (hs : s ≠ []) (hu : urisL true s = s.length) (h33 : (33 : UInt8) ∉ s) : sizeL (h ++ s) = (h ++ s).length := by
  have h60 : s[0]? ≠ some 60 := by
    intro h
    cases s with
    | nil => cases h
    | cons c r =>
      have hc : c = 60 := by simpa using h
      rw [hc, uris_no60] at hu
      simp at hu
  have hpos : 0 < s.length := List.length_pos_iff.2 hs
  rcases hh with rfl | rfl | rfl
  · have e0 : handleL ([33] ++ s) = 0 := by
      rw [handleL, if_neg]
      intro h
      rw [show 1 + wordsL (([33] ++ s : Bs).drop 1) = wordsL s + 1 from by rw [Nat.add_comm]; rfl] at h
      exact h33 (List.mem_of_getElem? (show s[wordsL s]? = some 33 from h))
    rw [sizeL, if_neg (by simp), if_neg (fun h => h60 h.1), if_neg (by rw [e0]; simp)]
    show 1 + urisL true s = _
    rw [hu]; simp; omega
  · have e0 : handleL ([33, 33] ++ s) = 2 := by
      have : wordsL ((33 : UInt8) :: s) = 0 := by rw [wordsL, if_neg (by decide)]
      rw [handleL]
      show (if ([33, 33] ++ s : Bs)[1 + wordsL (33 :: s)]? = some 33 then 1 + wordsL (33 :: s) + 1 else 0) = 2
      rw [this]; rfl
    rw [sizeL, if_neg (by simp), if_neg (fun h => by have := h.1; simp at this), if_pos]
    · rw [e0]; show 2 + urisL true s = _
      rw [hu]; simp; omega
    · rw [e0]; exact ⟨by decide, by show 0 < urisL true s; omega⟩
  · have e0 : handleL ([33, 101, 45, 49, 33] ++ s) = 5 := by
      have : wordsL ((101 : UInt8) :: 45 :: 49 :: 33 :: s) = 3 := by
        rw [wordsL, if_pos (by decide), wordsL, if_pos (by decide), wordsL, if_pos (by decide), wordsL, if_neg (by decide)]
      rw [handleL]
      show (if ([33, 101, 45, 49, 33] ++ s : Bs)[1 + wordsL (101 :: 45 :: 49 :: 33 :: s)]? = some 33 then 1 + wordsL (101 :: 45 :: 49 :: 33 :: s) + 1 else 0) = 5
      rw [this]; rfl
    rw [sizeL, if_neg (by simp), if_neg (fun h => by have := h.1; simp at this), if_pos]
    · rw [e0]; show 5 + urisL true s = _
      rw [hu]; simp; omega
    · rw [e0]; exact ⟨by decide, by show 0 < urisL true s; omega⟩

theorem sizeZ_all (l : Bs) (h : l ≠ []) : sizeZ (mkS l) 0 = sizeL l := by
  have : 0 < l.length := List.length_pos_iff.2 h
  rw [sizeZ, if_neg]
  · rfl
  · rw [mkS_size]; omega

theorem tag_cut {h s : Bs} (hh : HandleOf h) (h33 : (33 : UInt8) ∉ s) : cutI (mkS (h ++ s)) = h.length := by
  have hlast : (h ++ s)[h.length - 1]? = some 33 ∧ 1 ≤ h.length := by
    rcases hh with rfl | rfl | rfl <;> exact ⟨rfl, by decide⟩
  rw [cutI, last_at (mkS (h ++ s)) h.length hlast.2 (by rw [mkS_size]; simp) hlast.1]
  · omega
  · intro j hj hk he
    have e1 : (h ++ s)[j]? = some ((mkS (h ++ s))[j]) := List.getElem?_eq_getElem (l := h ++ s) hj
    rw [List.getElem?_append_right hk, he] at e1
    exact h33 (List.mem_of_getElem? e1)

theorem full_tag (ss : List ByteArray) {h s : Bs} (hh : HandleOf h) (hs : s ≠ []) (hu : urisL true s = s.length) (h33 : (33 : UInt8) ∉ s) :
    fullS ss (mkS (h ++ s)) = if (prefS (mkS h) ss).2 = true ∧ placeS (mkS (toldL s)) < 0 then ((prefS (mkS h) ss).1 ++ mkS (toldL s), 0) else (⟨#[]⟩, 8) := by
  have hpos : 0 < s.length := List.length_pos_iff.2 hs
  have hne : h ++ s ≠ [] := by simp [hs]
  have hlen : 0 < (h ++ s).length := List.length_pos_iff.2 hne
  have hsz : sizeZ (mkS (h ++ s)) 0 = (mkS (h ++ s)).size := by rw [sizeZ_all _ hne, tag_size hh hs hu h33]; rfl
  have hh1 : 1 ≤ h.length := by rcases hh with rfl | rfl | rfl <;> decide
  have e1 : (mkS (h ++ s)).extract 0 h.length = mkS h := by
    apply ByteArray.ext
    apply Array.toList_inj.1
    rw [ByteArray.data_extract, Array.toList_extract]
    show List.take (h.length - 0) ((h ++ s).drop 0) = h
    rw [Nat.sub_zero, List.drop_zero, List.take_left]
  have e2 : ((mkS (h ++ s)).extract h.length (mkS (h ++ s)).size).data.toList = s := by
    rw [extract_to_end]
    show (h ++ s).drop h.length = s
    rw [List.drop_left]
  have e60 : preS (mkS (h ++ s)) ⟨#[33, 60]⟩ = false := by
    show Lib.hasPrefix (h ++ s) [33, 60] = false
    rcases hh with rfl | rfl | rfl
    · cases s with
      | nil => exact absurd rfl hs
      | cons c r =>
        rw [show ([33] ++ c :: r : Bs) = 33 :: c :: r from rfl, pre2]
        by_cases hc : c = 60
        · rw [hc, uris_no60] at hu; simp at hu
        · simp [hc]
    · rfl
    · rfl
  have e33 : ¬ ((mkS (h ++ s)).toList == [33]) = true := by
    rw [mkS_toList]
    intro he
    have he2 : h ++ s = [33] := by simpa using he
    have := congrArg List.length he2
    simp at this; omega
  rw [fullS, if_neg (by rw [hsz, mkS_size]; omega), if_neg e33, if_neg (by rw [e60]; simp), tag_cut hh h33, e1]
  rw [show toldS ((mkS (h ++ s)).extract h.length (mkS (h ++ s)).size) = mkS (toldL s) from by rw [toldS, e2]]

theorem full_verb (ss : List ByteArray) {v : Bs} (hv : v ≠ []) (hu : urisL false v = v.length) : fullS ss (mkS ([33, 60] ++ v ++ [62])) = (mkS v, 0) := by
  have hpos : 0 < v.length := List.length_pos_iff.2 hv
  have hu2 : urisL false (v ++ [62]) = v.length := by
    have := uris_take false v [62] (by rw [uris_no62])
    rw [hu, List.take_length] at this
    exact this
  have hne : [33, 60] ++ v ++ [62] ≠ [] := by simp
  have hl : ([33, 60] ++ v ++ [62] : Bs).length = v.length + 3 := by simp
  have hs : sizeL ([33, 60] ++ v ++ [62]) = v.length + 3 := by
    rw [sizeL, if_neg (by simp), if_pos]
    · show urisL false (v ++ [62]) + 3 = _
      rw [hu2]
    · refine ⟨rfl, ?_, ?_⟩
      · show 0 < urisL false (v ++ [62]); omega
      · show ([33, 60] ++ v ++ [62] : Bs)[2 + urisL false (v ++ [62])]? = some 62
        rw [hu2, List.getElem?_append_right (by simp; omega)]
        rw [show 2 + v.length - ([33, 60] ++ v : Bs).length = 0 from by simp; omega]; rfl
  have hsz : sizeZ (mkS ([33, 60] ++ v ++ [62])) 0 = (mkS ([33, 60] ++ v ++ [62])).size := by rw [sizeZ_all _ hne, hs, mkS_size, hl]
  have e60 : preS (mkS ([33, 60] ++ v ++ [62])) ⟨#[33, 60]⟩ = true := by
    show Lib.hasPrefix (33 :: 60 :: (v ++ [62])) [33, 60] = true
    rw [pre2]; rfl
  have e33 : ¬ ((mkS ([33, 60] ++ v ++ [62])).toList == [33]) = true := by
    rw [mkS_toList]
    intro he
    simp at he
  rw [fullS, if_neg (by rw [hsz, mkS_size, hl]; omega), if_neg e33, if_pos e60]
  have e1 : cutS (mkS ([33, 60] ++ v ++ [62])) ⟨#[33, 60]⟩ = mkS (v ++ [62]) := by
    rw [cutS]
    show mkS (Lib.trimPrefix (33 :: 60 :: (v ++ [62])) [33, 60]) = _
    rw [Lib.trimPrefix, if_pos (by rw [pre2]; rfl)]; rfl
  rw [e1, trimS]
  show (mkS (Lib.trimSuffix (v ++ [62]) [62]), (0 : Int)) = _
  rw [Lib.trimSuffix, if_pos (by simp [Lib.hasSuffix])]
  simp

/- PLAIN BYTES: those of a URI's that stand for themselves. -/
def plainB (c : UInt8) : Bool := uriB c && c != 37 && c != 33 && !flowB c
def Plain (l : Bs) : Prop := ∀ c ∈ l, plainB c = true
theorem plain_uris (t : Bool) : ∀ l : Bs, Plain l → urisL t l = l.length
  | [], _ => rfl
  | c :: r, h => by
    have hc := h c (by simp)
    rw [urisL, if_pos, plain_uris t r (fun d hd => h d (by simp [hd]))]
    · rfl
    · simp only [plainB, Bool.and_eq_true, bne_iff_ne, Bool.not_eq_true'] at hc
      obtain ⟨⟨⟨h1, h2⟩, h3⟩, h4⟩ := hc
      simp [h1, h2, h3, h4]
theorem plain_told : ∀ l : Bs, (37 : UInt8) ∉ l → toldL l = l
  | [], _ => rfl
  | [_], _ => rfl
  | [_, _], _ => rfl
  | c :: a :: b :: r, h => by
    rw [toldL, if_neg (fun e => h (by simp [e])), plain_told (a :: b :: r) (fun e => h (by simp [e]))]
theorem plain_33 {l : Bs} (h : Plain l) : (33 : UInt8) ∉ l := fun e => by
  have := h 33 e
  revert this; decide
theorem plain_37 {l : Bs} (h : Plain l) : (37 : UInt8) ∉ l := fun e => by
  have := h 37 e
  revert this; decide
theorem plain_ascii {l : Bs} (h : Plain l) : ∀ c ∈ l, c.toNat < 128 := fun c hc => by
  have := h c hc
  simp only [plainB, Bool.and_eq_true] at this
  exact uri_ascii this.1.1.1
theorem plain_app {a b : Bs} (ha : Plain a) (hb : Plain b) : Plain (a ++ b) := fun c hc => (List.mem_append.1 hc).elim (ha c) (hb c)

theorem dec_ascii (s : ByteArray) (k : Nat) (h : k < s.size) (ha : s[k].toNat < 128) : Utf8.decode s k = (s[k].toNat, 1) := by
  have g : s.get! k = s[k] := by
    cases s with
    | mk d => exact getElem!_pos d k h
  unfold Utf8.decode
  simp only [Nat.add_zero, g]
  rw [if_pos (by omega)]
theorem placeF_ascii (s : ByteArray) (f p : Nat) (h : p < s.size) (ha : s[p].toNat < 128) : placeF s (f + 1) p = placeF s f (p + 1) := by
  rw [placeF, if_pos h, dec_ascii s p h ha, if_neg]
  dsimp only
  omega
theorem placeF_plain (s : ByteArray) : ∀ f p : Nat, (∀ k (h : k < s.size), p ≤ k → s[k].toNat < 128) → placeF s f p = -1
  | 0, _, _ => rfl
  | f + 1, p, ha => by
    by_cases h : p < s.size
    · rw [placeF_ascii s f p h (ha p h (Nat.le_refl _)), placeF_plain s f (p + 1) (fun k hk hle => ha k hk (by omega))]
    · rw [placeF, if_neg h]
theorem place_plain {l : Bs} (h : Plain l) : placeS (mkS l) = -1 := placeF_plain _ _ _ fun k hk _ => plain_ascii h _ (by
  have e1 : l[k]? = some ((mkS l)[k]) := List.getElem?_eq_getElem (l := l) hk
  exact List.mem_of_getElem? e1)
end Go.Proofs.YtabdhfpohodohaaDoor
