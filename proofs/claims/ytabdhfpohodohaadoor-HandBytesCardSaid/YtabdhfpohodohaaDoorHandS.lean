/-
  Plain laws for HandBytes: bytes told by % and two digits; a code point's bytes have no wrong place.
-/
import Derived.Test.YtabdhfpohodohaaDoorHandR
import Derived.Test.YtabdhfpohodohaaDoorOne
namespace Go.Proofs.YtabdhfpohodohaaDoor
open Go.RowKit

def digU (great : Bool) (n : Nat) : UInt8 := if n < 10 then UInt8.ofNat (48 + n) else if great then UInt8.ofNat (55 + n) else UInt8.ofNat (87 + n)
def pctL (great : Bool) : Bs → Bs
  | [] => []
  | c :: r => 37 :: digU great (c.toNat / 16) :: digU great (c.toNat % 16) :: pctL great r
theorem pct_len (g : Bool) (l : Bs) : (pctL g l).length = 3 * l.length := by
  induction l with
  | nil => rfl
  | cons c r ih => simp [pctL, ih]; omega
theorem pct_app (g : Bool) (a b : Bs) : pctL g (a ++ b) = pctL g a ++ pctL g b := by
  induction a with
  | nil => rfl
  | cons c r ih => simp [pctL, ih]
theorem dig_tab : ∀ g : Bool, ∀ n : Nat, n < 16 → hexB (digU g n) = true ∧ digU g n ≠ 33 ∧ digU g n ≠ 37 := by decide +kernel
theorem byte_tab : ∀ g : Bool, ∀ n : Nat, n < 256 → hexByte (digU g (n / 16)) (digU g (n % 16)) = UInt8.ofNat n := by decide +kernel
theorem dig_byte (g : Bool) (c : UInt8) : hexByte (digU g (c.toNat / 16)) (digU g (c.toNat % 16)) = c := by
  rw [byte_tab g _ c.toNat_lt, UInt8.ofNat_toNat]
theorem uris_pct {a b : UInt8} (ha : hexB a = true) (hb : hexB b = true) (t : Bool) (r : Bs) : urisL t (37 :: a :: b :: r) = urisL t r + 3 := by
  rw [urisL, if_pos, uris_hex' ha, uris_hex' hb]
  simp only [percentL, ha, hb]
  cases t <;> decide
theorem pct_uris (g t : Bool) (l x : Bs) : urisL t (pctL g l ++ x) = 3 * l.length + urisL t x := by
  induction l with
  | nil => simp [pctL]
  | cons c r ih =>
    have h1 := (dig_tab g (c.toNat / 16) (by have := c.toNat_lt; omega)).1
    have h2 := (dig_tab g (c.toNat % 16) (by omega)).1
    show urisL t (37 :: digU g (c.toNat / 16) :: digU g (c.toNat % 16) :: (pctL g r ++ x)) = _
    rw [uris_pct h1 h2, ih]; simp; omega
theorem pct_told (g : Bool) (l x : Bs) : toldL (pctL g l ++ x) = l ++ toldL x := by
  induction l with
  | nil => rfl
  | cons c r ih =>
    show toldL (37 :: digU g (c.toNat / 16) :: digU g (c.toNat % 16) :: (pctL g r ++ x)) = _
    rw [toldL, if_pos rfl, ih, dig_byte]; rfl
theorem pct_33 (g : Bool) (l : Bs) : (33 : UInt8) ∉ pctL g l := by
  induction l with
  | nil => simp [pctL]
  | cons c r ih =>
    have h1 := (dig_tab g (c.toNat / 16) (by have := c.toNat_lt; omega)).2.1
    have h2 := (dig_tab g (c.toNat % 16) (by omega)).2.1
    rw [pctL]
    intro h
    rcases List.mem_cons.1 h with h | h
    · cases h
    rcases List.mem_cons.1 h with h | h
    · exact h1 h.symm
    rcases List.mem_cons.1 h with h | h
    · exact h2 h.symm
    · exact ih h
theorem uris_a (t : Bool) (r : Bs) : urisL t (97 :: r) = urisL t r + 1 := by
  rw [urisL, if_pos]
  cases t <;> simp <;> decide
theorem told_a (r : Bs) : toldL (97 :: r) = 97 :: toldL r := by
  match r with
  | [] => rfl
  | [_] => rfl
  | _ :: _ :: _ => rw [toldL, if_neg (by decide)]

theorem placeF_one {s : ByteArray} {p n : Nat} {r : Int} (f : Nat) (hp : p < s.size) (h : oneS s p = (r, (n : Int))) (hn : 0 < n) : placeF s (f + 1) p = placeF s f (p + n) := by
  unfold oneS at h
  split at h
  · have := congrArg Prod.snd h
    simp at this; omega
  · rename_i hc
    rw [placeF, if_pos hp, if_neg hc]
    have h2 : ((Utf8.decode s p).2 : Int) = (n : Int) := congrArg Prod.snd h
    rw [show (Utf8.decode s p).2 = n from by omega]
theorem placeF_bad {s : ByteArray} {p : Nat} (f : Nat) (hp : p < s.size) (h : oneS s p = (0, 0)) : placeF s (f + 1) p = p := by
  unfold oneS at h
  split at h
  · rename_i hc
    rw [placeF, if_pos hp, if_pos hc]
  · have h1 := congrArg Prod.snd h
    have h2 := Lib.decode_width_pos s p hp
    simp at h1; omega

/-- a code point's bytes. -/
def encL (c : Nat) : Bs :=
  if c < 128 then [UInt8.ofNat c]
  else if c < 2048 then [UInt8.ofNat (192 + c / 64), UInt8.ofNat (128 + c % 64)]
  else if c < 65536 then [UInt8.ofNat (224 + c / 4096), UInt8.ofNat (128 + c / 64 % 64), UInt8.ofNat (128 + c % 64)]
  else [UInt8.ofNat (240 + c / 262144), UInt8.ofNat (128 + c / 4096 % 64), UInt8.ofNat (128 + c / 64 % 64), UInt8.ofNat (128 + c % 64)]
theorem enc_eq {r : Int} (h : 0 ≤ r ∧ r < 1114112 ∧ ¬ (55296 ≤ r ∧ r ≤ 57343)) : Utf8.encode r = mkS (encL r.toNat) := by
  have hv : Utf8.valid r = true := by simp [Utf8.valid]; omega
  unfold Utf8.encode encL
  simp only [hv]
  by_cases h1 : r.toNat < 128
  · simp [h1, mkS]
  · by_cases h2 : r.toNat < 2048
    · simp [h1, h2, mkS]
    · by_cases h3 : r.toNat < 65536
      · simp [h1, h2, h3, mkS]
      · simp [h1, h2, h3, mkS]
theorem u8n {n : Nat} (h : n < 256) : (UInt8.ofNat n).toNat = n := by simp; omega
theorem enc_len (c : Nat) : 1 ≤ (encL c).length ∧ (encL c).length ≤ 4 := by
  unfold encL
  split
  · simp
  split
  · simp
  split <;> simp

theorem enc_place (c : Nat) (hc : c < 1114112) (hs : ¬ (55296 ≤ c ∧ c ≤ 57343)) (x : Bs) (f : Nat) :
    placeF (mkS (97 :: (encL c ++ x))) (f + 2) 0 = placeF (mkS (97 :: (encL c ++ x))) f (1 + (encL c).length) := by
  have hl := enc_len c
  have e0 : placeF (mkS (97 :: (encL c ++ x))) (f + 1 + 1) 0 = placeF (mkS (97 :: (encL c ++ x))) (f + 1) 1 := placeF_ascii _ _ _ (by rw [mkS_size]; simp) (by show (97 : UInt8).toNat < 128; decide)
  rw [e0]
  unfold encL
  split
  · rename_i h1
    have hp : 1 < (mkS (97 :: ([UInt8.ofNat c] ++ x))).size := by rw [mkS_size]; simp
    refine placeF_ascii _ _ _ hp ?_
    show (UInt8.ofNat c).toNat < 128
    rw [u8n (by omega)]; exact h1
  split
  · rename_i h1 h2
    have hp : 1 + 1 < (mkS (97 :: ([UInt8.ofNat (192 + c / 64), UInt8.ofNat (128 + c % 64)] ++ x))).size := by rw [mkS_size]; simp
    have b0 : ((mkS (97 :: ([UInt8.ofNat (192 + c / 64), UInt8.ofNat (128 + c % 64)] ++ x)))[1]'(by omega)).toNat = 192 + c / 64 := u8n (n := 192 + c / 64) (by omega)
    have b1 : ((mkS (97 :: ([UInt8.ofNat (192 + c / 64), UInt8.ofNat (128 + c % 64)] ++ x)))[1 + 1]).toNat = 128 + c % 64 := u8n (n := 128 + c % 64) (by omega)
    have h := one_two _ 1 hp (by rw [b0]; omega) (by rw [b0]; omega)
    rw [b0, b1, if_pos (by omega)] at h
    exact placeF_one (n := 2) f (by omega) h (by decide)
  split
  · rename_i h1 h2 h3
    have hp : 1 + 2 < (mkS (97 :: ([UInt8.ofNat (224 + c / 4096), UInt8.ofNat (128 + c / 64 % 64), UInt8.ofNat (128 + c % 64)] ++ x))).size := by rw [mkS_size]; simp
    have b0 : ((mkS (97 :: ([UInt8.ofNat (224 + c / 4096), UInt8.ofNat (128 + c / 64 % 64), UInt8.ofNat (128 + c % 64)] ++ x)))[1]'(by omega)).toNat = 224 + c / 4096 := u8n (n := 224 + c / 4096) (by omega)
    have b1 : ((mkS (97 :: ([UInt8.ofNat (224 + c / 4096), UInt8.ofNat (128 + c / 64 % 64), UInt8.ofNat (128 + c % 64)] ++ x)))[1 + 1]'(by omega)).toNat = 128 + c / 64 % 64 := u8n (n := 128 + c / 64 % 64) (by omega)
    have b2 : ((mkS (97 :: ([UInt8.ofNat (224 + c / 4096), UInt8.ofNat (128 + c / 64 % 64), UInt8.ofNat (128 + c % 64)] ++ x)))[1 + 2]).toNat = 128 + c % 64 := u8n (n := 128 + c % 64) (by omega)
    have h := one_three _ 1 hp (by rw [b0]; omega) (by rw [b0]; omega)
    rw [b0, b1, b2, if_pos (by omega)] at h
    exact placeF_one (n := 3) f (by omega) h (by decide)
  · rename_i h1 h2 h3
    have hp : 1 + 3 < (mkS (97 :: ([UInt8.ofNat (240 + c / 262144), UInt8.ofNat (128 + c / 4096 % 64), UInt8.ofNat (128 + c / 64 % 64), UInt8.ofNat (128 + c % 64)] ++ x))).size := by rw [mkS_size]; simp
    have b0 : ((mkS (97 :: ([UInt8.ofNat (240 + c / 262144), UInt8.ofNat (128 + c / 4096 % 64), UInt8.ofNat (128 + c / 64 % 64), UInt8.ofNat (128 + c % 64)] ++ x)))[1]'(by omega)).toNat = 240 + c / 262144 := u8n (n := 240 + c / 262144) (by omega)
    have b1 : ((mkS (97 :: ([UInt8.ofNat (240 + c / 262144), UInt8.ofNat (128 + c / 4096 % 64), UInt8.ofNat (128 + c / 64 % 64), UInt8.ofNat (128 + c % 64)] ++ x)))[1 + 1]'(by omega)).toNat = 128 + c / 4096 % 64 := u8n (n := 128 + c / 4096 % 64) (by omega)
    have b2 : ((mkS (97 :: ([UInt8.ofNat (240 + c / 262144), UInt8.ofNat (128 + c / 4096 % 64), UInt8.ofNat (128 + c / 64 % 64), UInt8.ofNat (128 + c % 64)] ++ x)))[1 + 2]'(by omega)).toNat = 128 + c / 64 % 64 := u8n (n := 128 + c / 64 % 64) (by omega)
    have b3 : ((mkS (97 :: ([UInt8.ofNat (240 + c / 262144), UInt8.ofNat (128 + c / 4096 % 64), UInt8.ofNat (128 + c / 64 % 64), UInt8.ofNat (128 + c % 64)] ++ x)))[1 + 3]).toNat = 128 + c % 64 := u8n (n := 128 + c % 64) (by omega)
    have h := one_four _ 1 hp (by rw [b0]; omega) (by rw [b0]; omega)
    rw [b0, b1, b2, b3, if_pos (by omega)] at h
    exact placeF_one (n := 4) f (by omega) h (by decide)

theorem enc_good (c : Nat) (hc : c < 1114112) (hs : ¬ (55296 ≤ c ∧ c ≤ 57343)) : placeS (mkS (97 :: encL c)) = -1 := by
  have hl := enc_len c
  have h := enc_place c hc hs [] ((encL c).length - 1)
  rw [List.append_nil] at h
  rw [placeS, mkS_size]
  show placeF _ ((encL c).length + 1) 0 = _
  rw [show (encL c).length + 1 = (encL c).length - 1 + 2 from by omega, h]
  cases hf : (encL c).length - 1 with
  | zero => rfl
  | succ f => rw [placeF, if_neg]; rw [mkS_size]; simp; omega
theorem enc_bad (c : Nat) (hc : c < 1114112) (hs : ¬ (55296 ≤ c ∧ c ≤ 57343)) : ¬ placeS (mkS (97 :: (encL c ++ [255]))) < 0 := by
  have hl := enc_len c
  have h := enc_place c hc hs [255] (encL c).length
  rw [placeS, mkS_size]
  show ¬ placeF _ ((encL c ++ [255]).length + 1) 0 < 0
  rw [show (encL c ++ [255] : Bs).length + 1 = (encL c).length + 2 from by simp, h]
  obtain ⟨f, hf⟩ : ∃ f, (encL c).length = f + 1 := ⟨(encL c).length - 1, by omega⟩
  have hp : 1 + (encL c).length < (mkS (97 :: (encL c ++ [255]))).size := by rw [mkS_size]; simp; omega
  have hb : (mkS (97 :: (encL c ++ [255])))[1 + (encL c).length] = 255 := by
    have e1 : (97 :: (encL c ++ [255]) : Bs)[1 + (encL c).length]? = some ((mkS (97 :: (encL c ++ [255])))[1 + (encL c).length]) := List.getElem?_eq_getElem (l := 97 :: (encL c ++ [255])) hp
    have e2 : (97 :: (encL c ++ [255]) : Bs)[1 + (encL c).length]? = some 255 := by
      rw [Nat.add_comm, List.getElem?_cons_succ, List.getElem?_append_right (Nat.le_refl _), Nat.sub_self]; rfl
    exact Option.some.inj (e1.symm.trans e2)
  have ho := one_out _ _ hp (by rw [hb]; decide) (.inr (by rw [hb]; decide))
  have hz := placeF_bad f hp ho
  rw [← hf] at hz
  rw [hz]
  omega

theorem prefS_bang : prefS (mkS [33]) [] = (⟨#[33]⟩, true) := by decide +kernel

/-- what the law asks of a code point. -/
theorem bytes_facts (c : Nat) (hc : c < 1114112) (hs : ¬ (55296 ≤ c ∧ c ≤ 57343)) (g : Bool) :
    fullS [] (mkS ([33, 97] ++ pctL g (encL c))) = (mkS ([33, 97] ++ encL c), 0) ∧ fullS [] (mkS ([33, 97] ++ pctL g (encL c) ++ [37, 102, 70])) = (⟨#[]⟩, 8) ∧
      fullS [] (mkS ([33, 60] ++ pctL g (encL c) ++ [62])) = (mkS (pctL g (encL c)), 0) := by
  have hl := enc_len c
  have hpl := pct_len g (encL c)
  have hne : pctL g (encL c) ≠ [] := fun e => by rw [e] at hpl; simp at hpl; omega
  have u0 : ∀ t, urisL t (pctL g (encL c)) = (pctL g (encL c)).length := fun t => by
    have := pct_uris g t (encL c) []
    rw [List.append_nil] at this
    rw [this, hpl]; rfl
  refine ⟨?_, ?_, full_verb [] hne (u0 false)⟩
  · have h := full_tag [] (h := [33]) (s := 97 :: pctL g (encL c)) (.inl rfl) (by simp) (by rw [uris_a, u0]; rfl) (by
      intro e
      rcases List.mem_cons.1 e with e | e
      · cases e
      · exact pct_33 _ _ e)
    have ht : toldL (97 :: pctL g (encL c)) = 97 :: encL c := by
      have := pct_told g (encL c) []
      rw [List.append_nil] at this
      rw [told_a, this]
      show 97 :: (encL c ++ []) = _
      rw [List.append_nil]
    rw [ht, prefS_bang, if_pos ⟨rfl, by rw [enc_good c hc hs]; decide⟩] at h
    exact h
  · have h := full_tag [] (h := [33]) (s := 97 :: (pctL g (encL c) ++ [37, 102, 70])) (.inl rfl) (by simp) (by rw [uris_a, pct_uris]; simp [hpl]; rfl) (by
      intro e
      rcases List.mem_cons.1 e with e | e
      · cases e
      rcases List.mem_append.1 e with e | e
      · exact pct_33 _ _ e
      · revert e; decide)
    have ht : toldL (97 :: (pctL g (encL c) ++ [37, 102, 70])) = 97 :: (encL c ++ [255]) := by
      rw [told_a, pct_told]; rfl
    rw [ht, prefS_bang, if_neg (fun e => enc_bad c hc hs e.2)] at h
    exact h
end Go.Proofs.YtabdhfpohodohaaDoor
