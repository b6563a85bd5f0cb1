/-
  bosketref1.Full computes what hand.Full does ('fullS').
-/
import Derived.Test.YtabdhfpohodohaaDoorRefE
import Derived.Deep.RegionLaw
import Derived.Deep.AppendLies
import Derived.BigQuiet
import Derived.Deep.DeepCutAuto
import Derived.IntWalk
namespace Go.Proofs.YtabdhfpohodohaaDoor
open Go.RowKit

theorem shl_or_tab : ∀ a : Nat, a < 16 → ∀ b : Nat, b < 16 → bits .or .i32 ((a : Int) * 16) (b : Int) = ((a * 16 + b : Nat) : Int) := by decide +kernel

theorem pick_k {l : Bs} {k h n : Nat} (HK : (0 < handleL l ∧ 0 < urisL true (l.drop (handleL l)) ∧ k = handleL l) ∨ (¬ (0 < handleL l ∧ 0 < urisL true (l.drop (handleL l))) ∧ k = 1))
    (Hh : h = handleN (l.drop 0)) (Hn : n = urisL true (l.drop (h : Int).toNat)) : k = if n = 0 then 1 else h := by
  rw [List.drop_zero, handleN] at Hh
  rw [Int.toNat_natCast] at Hn
  rcases HK with ⟨h1, h2, h3⟩ | ⟨h1, h3⟩
  · rw [if_pos h1] at Hh
    subst Hh
    rw [if_neg (by omega)]
    exact h3
  · by_cases hh : 0 < handleL l
    · rw [if_pos hh] at Hh
      subst Hh
      have : ¬ 0 < urisL true (l.drop (handleL l)) := fun x => h1 ⟨hh, x⟩
      rw [if_pos (by omega)]
      exact h3
    · rw [if_neg hh] at Hh
      subst Hh
      split
      · exact h3
      · exact h3
theorem i64_eq {a b : Int} (h : a = b) : Value.int .i64 a = .int .i64 b := by rw [h]
theorem hex_join {a b : UInt8} (h0 : hexZ (a.toNat : Int) = true) (h1 : hexZ (b.toNat : Int) = true) : IntKind.u8.wrap (bits .or .i32 (IntKind.i32.wrap (hexV (a.toNat : Int) * 16)) (hexV (b.toNat : Int))) = ((hexByte a b).toNat : Int) := by
  have ha := hexV_le (hex_ways h0)
  have hb := hexV_le (hex_ways h1)
  rw [← hexByte_val h0 h1]
  obtain ⟨x, hx⟩ := Int.eq_ofNat_of_zero_le ha.1
  obtain ⟨y, hy⟩ := Int.eq_ofNat_of_zero_le hb.1
  rw [hx, hy]
  have e1 : IntKind.i32.wrap ((x : Int) * 16) = (x : Int) * 16 := by rw [IntKind.wrap_i32]; omega
  rw [e1, shl_or_tab x (by omega) y (by omega), IntKind.wrap_u8]
  omega
/-- behind a place of a tag each percent sign stands ahead of two hex digits. -/
def OkPk (s : ByteArray) (k : Nat) : Prop := ∀ i (h : i < s.size), k ≤ i → s[i].toNat = 37 → ∃ h2 : i + 2 < s.size, hexZ (s[i + 1].toNat : Int) = true ∧ hexZ (s[i + 2].toNat : Int) = true
theorem okP_at {s : ByteArray} {k : Nat} (h : OkP (s.extract k s.size)) : OkPk s k := by
  intro i hi hk h37
  have hj : i - k < (s.extract k s.size).size := by simp; omega
  obtain ⟨q, e⟩ := flat_idx s k (i - k) hj
  have e0 : k + (i - k) = i := by omega
  obtain ⟨h2, a, b⟩ := h (i - k) hj (by rw [e]; simp only [e0]; exact h37)
  have h2' : i + 2 < s.size := by simp at h2; omega
  obtain ⟨q1, e1⟩ := flat_idx s k (i - k + 1) (by omega)
  obtain ⟨q2, e2⟩ := flat_idx s k (i - k + 2) h2
  rw [e1] at a
  rw [e2] at b
  have f1 : k + (i - k + 1) = i + 1 := by omega
  have f2 : k + (i - k + 2) = i + 2 := by omega
  simp only [f1] at a
  simp only [f2] at b
  exact ⟨h2', a, b⟩

set_option maxRecDepth 100000 in
set_option maxHeartbeats 2000000 in
/-- the loop behind the prefix, from 'i := h' on. -/
theorem refFull_tail (A : Option Addr) (n c : Nat) (ss : List ByteArray) (tag : ByteArray) (w : World) (k : Nat) (hN : n ≤ 140737488355328) (hR : ReadsS w w.heap.size A n ss) (hsz : Hid (∀ d ∈ ss, d.size ≤ 140737488355328)) (hs : tag.size ≤ 140737488355327)
    (h0 : tag.toList.isEmpty = false) (_hne : ¬ tag.toList = []) (H1 : Hid (sizeZ tag 0 = tag.size)) (h2 : (tag.toList == [33]) = false) (hlen : 1 < tag.size) (h60 : ((tag[1].toNat : Int) == 60) = false)
    (hk1 : 1 ≤ k) (hk : k ≤ tag.size) (HK : Hid ((0 < handleL tag.data.toList ∧ 0 < urisL true (tag.data.toList.drop (handleL tag.data.toList)) ∧ k = handleL tag.data.toList) ∨ (¬ (0 < handleL tag.data.toList ∧ 0 < urisL true (tag.data.toList.drop (handleL tag.data.toList))) ∧ k = 1)))
    (hP : Hid (OkPk tag k))
    (HF : Hid (fullS ss tag = if (prefS (tag.extract 0 k) ss).2 = true ∧ placeS (mkS (toldL (tag.data.toList.drop k))) < 0 then ((prefS (tag.extract 0 k) ss).1 ++ mkS (toldL (tag.data.toList.drop k)), 0) else (⟨#[]⟩, 8))) :
    Calls Tryd.prog 11 #[.slice A n c, .string tag] w fun e w' => e = .returned (.tuple #[.string (fullS ss tag).1, .int .i64 (fullS ss tag).2]) ∧ Below w.heap.size w w' := by
  obtain ⟨i0, hi, hz0, hz1, hz2⟩ := info_parts info5
  have hlen' : ((1 : Int) < (tag.size : Int)) := by omega
  go_enter Tryd.func11, Tryd.ntmps11
  go_upto_if 35 with (first
    | (go_at_call 13; refine (refSize_any _ _ _ hs).mono ?_; rintro e w' ⟨n, rfl, Hn, rfl⟩; obtain rfl : n = tag.size := Hn.out.trans H1.out)
    | (go_at_call 22; refine (refHandle_any _ 0 _ (by omega) hs).mono ?_; rintro e w' ⟨h, rfl, Hh, hh1, hh2, rfl⟩)
    | (go_at_call 23; refine (refSuffix_any _ _ _ (by omega) (by omega) hs).mono ?_; rintro e w' ⟨n, rfl, Hn, hn, rfl⟩))
  go_cut [6] (fun s6 wx => s6 = .int .i64 (k : Nat) ∧ w = wx)
  case first =>
    go_wp2_with fail
    · have h0 : ((n : Int) == 0) = true := by assumption
      go_meet
      exact ⟨i64_eq (by have := pick_k HK.out Hh.out Hn.out; simp at h0; rw [if_pos h0] at this; omega), rfl⟩
    · have h0 : ((n : Int) == 0) = false := by assumption
      go_meet
      exact ⟨i64_eq (by have := pick_k HK.out Hh.out Hn.out; simp at h0; rw [if_neg h0] at this; omega), rfl⟩
  case rest =>
    obtain ⟨rfl, rfl⟩ := hcut
    cases hb : (prefS (tag.extract 0 k) ss).2
    · have Hb := Lib.hid hb
      clear hb
      go_wp2_with (go_at_call 24; refine (refPrefix_any _ _ _ _ _ _ hN hR hsz (by simp; omega)).mono ?_; rintro e w' ⟨r2, b2, rfl, ⟨Hrb2, hr2⟩, rfl⟩; obtain rfl : b2 = false := (congrArg Prod.snd Hrb2.out).trans Hb.out)
      go_ret2
      exact ⟨ret_si (by rw [HF.out, if_neg (fun h => by rw [Hb.out] at h; cases h.1)]), Below.refl _ _⟩
    · have Hb := Lib.hid hb
      clear hb
      go_wp2_with (go_at_call 24; refine (refPrefix_any _ _ _ _ _ _ hN hR hsz (by simp; omega)).mono ?_; rintro e w' ⟨r2, b2, rfl, ⟨Hrb2, hr2⟩, rfl⟩; obtain rfl : b2 = true := (congrArg Prod.snd Hrb2.out).trans Hb.out)
      go_loopw [9, 10] (fun v i wr => ∃ (p : Nat) (acc : Bs), i = .int .i64 p ∧ k ≤ p ∧ p ≤ tag.size ∧ wr.ownsRow w.heap.size 5 1 v acc.length (Lib.byteCells acc) ∧ Below w.heap.size w wr ∧ Hid (toldL (tag.data.toList.drop k) = acc ++ toldL (tag.data.toList.drop p)) ∧ acc.length ≤ p) (fun _ i _ => tag.size - (intOf i).toNat)
      case atStart => exact ⟨k, [], rfl, Nat.le_refl _, hk, World.ownsRow_nil _ _ _ _, Below.refl _ _, Lib.hid rfl, by simp⟩
      case round =>
        obtain ⟨p, acc, rfl, hkp, hps, hown, hbw, HS, hal⟩ := hrel
        by_cases hp : p < tag.size
        · by_cases hc : (tag[p].toNat : Int) = 37
          · obtain ⟨q2, x1, x2⟩ := hP.out p hp hkp (by omega)
            have hne37 : ((tag[p].toNat : Int) == 37) = true := by simpa using hc
            have HV := Lib.hid (hexByte_val x1 x2)
            have v1 := hexV_le (hex_ways x1)
            have v2 := hexV_le (hex_ways x2)
            have w1 := Lib.hid ((hexW_eq _ x1))
            have w2 := Lib.hid ((hexW_eq _ x2))
            have HT : Hid (toldL (tag.data.toList.drop p) = hexByte tag[p + 1] tag[p + 2] :: toldL (tag.data.toList.drop (p + 3))) := Lib.hid (told_percent tag p q2 hc)
            have t1 := tag[p + 1].toNat_lt
            have t2 := tag[p + 2].toNat_lt
            have hval : IntKind.u8.wrap (bits .or .i32 (IntKind.i32.wrap (hexV (tag[p + 1].toNat : Int) * 16)) (hexV (tag[p + 2].toNat : Int))) = ((hexByte tag[p + 1] tag[p + 2]).toNat : Int) := hex_join x1 x2
            clear hc x1 x2
            go_wp2
            have i1 : IntKind.i64.wrap ((p : Int) + 1) = (p : Int) + 1 := IntWalk.i64_in _ (by omega)
            have i2 : IntKind.i64.wrap ((p : Int) + 2) = (p : Int) + 2 := IntWalk.i64_in _ (by omega)
            have j1 : ((p : Int) + 1).toNat = p + 1 := by omega
            have j2 : ((p : Int) + 2).toNat = p + 2 := by omega
            have k1 : 0 ≤ (p : Int) + 1 := by omega
            have k2 : 0 ≤ (p : Int) + 2 := by omega
            have l1 : (p : Int) + 1 < (tag.size : Int) := by omega
            have l2 : (p : Int) + 2 < (tag.size : Int) := by omega
            go_region_law (first
              | (refine step_append_lies _ rfl (.tmp 57) (.tmp 71) 45 rfl w.heap.size 5 i0 (.int .u8 0) 1 1 Tryd.underlying45 hi hz0 hz1 hz2 rfl (by decide) _ _ _ (by simp [Act.eval]) ((hown.alloc _).drew) ⟨wr.heap.size, 0, none⟩ 1 1 [.int .u8 ((hexByte tag[p + 1] tag[p + 2]).toNat : Int)] (by simp [Act.eval]) rfl (fun j u h => cell_byte_new wr _ _ j u h) ?_ (by decide) ?_ ?_ ?_ _ rfl ?_; (intro u hu; simp at hu; subst hu; rfl); (unfold maxLen; omega); omega; (have := hbw.size; simp; omega); intro g cap w3 hown' hgrow3 hat hlt3)
              | (go_simp; go_at_call 25; refine (refHex_any _ (by omega) _).mono ?_; rintro e w' ⟨rfl, rfl⟩; first | rw [w1.out] | rw [w2.out]))
            all_goals have hbw3 := Below.grown ((hbw.alloc hbw.size _).drew) hgrow3 (by have := hbw.size; simp; omega) (fun j hj => (hown.lt _ hj).1)
            all_goals rw [byteCells_snoc] at hown'
            all_goals clear hgrow3 hown hbw hval hat hlt3
            all_goals go_wp2
            all_goals go_roundw
            all_goals first
              | (case rel =>
                   refine ⟨p + 3, acc ++ [hexByte tag[p + 1] tag[p + 2]], by go_num, by omega, by omega, by simpa using hown', hbw3, Lib.hid ?_, by simp; omega⟩
                   rw [HS.out, HT.out]
                   simp)
              | (case measure => simp [intOf]; omega)
          · have hne37 : ((tag[p].toNat : Int) == 37) = false := by simpa using hc
            go_wp2_with (at_builtin; refine wpList_append_own _ rfl (.tmp 75) (.tmp 79) 45 rfl w.heap.size 5 i0 (.int .u8 0) 1 1 Tryd.underlying45 hi hz0 hz1 hz2 rfl (by decide) _ _ _ rfl (hown.alloc _) ⟨wr.heap.size, 0, none⟩ 1 1 [.int .u8 (tag[p].toNat : Int)] rfl rfl ?d1 ?d2 ?d3 ?d4 ?d5 ?_)
            case d1 => exact cell_byte_new _ _ _
            case d2 => intro u hu; simp at hu; subst hu; rfl
            case d3 => unfold maxLen; omega
            case d4 => omega
            case d5 => have := hbw.size; simp; omega
            intro v' w3 hown' hgrow3 _
            have hbw3 := Below.grown (hbw.alloc hbw.size _) hgrow3 (by have := hbw.size; simp; omega) (fun j hj => (hown.lt _ hj).1)
            rw [byteCells_snoc] at hown'
            clear hgrow3 hown hbw
            go_wp2
            go_roundw
            case rel =>
              refine ⟨p + 1, acc ++ [tag[p]], by go_num, by omega, by omega, by simpa using hown', hbw3, Lib.hid ?_, by simp; omega⟩
              rw [HS.out, told_other tag p hp hc]
              simp
            case measure => simp [intOf]; omega
        · have HE : mkS acc = mkS (toldL (tag.data.toList.drop k)) := by
            rw [HS.out, told_end tag p (by omega), List.append_nil]
          have hcv := conv_own hown
          rw [HE] at hcv
          have hsz2 : (mkS (toldL (tag.data.toList.drop k))).size ≤ 140737488355327 := by
            have := toldL_le (tag.data.toList.drop k)
            rw [mkS_size]
            simp at this
            omega
          generalize mkS (toldL (tag.data.toList.drop k)) = T at *
          clear hown HS
          go_wp2_with (go_at_call 26; refine (refPlace_any _ _ (by omega)).mono ?_; rintro e w' ⟨rfl, rfl⟩)
          · have hpl : 0 ≤ placeS T := by assumption
            go_ret2
            exact ⟨ret_si (by rw [HF.out, if_neg (fun h => by have := h.2; omega)]), hbw⟩
          · have hpl : placeS T < 0 := by assumption
            go_ret2
            exact ⟨ret_si (by rw [HF.out, if_pos ⟨Hb.out, hpl⟩, ← Hrb2.out]), hbw⟩

theorem told_drop (tag : ByteArray) (k : Nat) : toldS (tag.extract k tag.size) = mkS (toldL (tag.data.toList.drop k)) := by rw [toldS, extract_to_end]
theorem sizeZ_nought (s : ByteArray) : sizeZ s 0 = sizeL s.data.toList := by
  rw [sizeZ]
  split
  · rename_i h
    have h0 : s.data.toList.length = 0 := by
      rcases h with h | h
      · omega
      · have : (s.size : Int) ≤ 0 := h
        show s.size = 0
        omega
    rw [List.eq_nil_of_length_eq_zero h0]; rfl
  · rfl
theorem size_nil : ∀ l : Bs, l.length = 0 → l = [] := fun _ h => List.eq_nil_of_length_eq_zero h
/-- what stands between < and >. -/
theorem between (tag : ByteArray) (h1 : sizeZ tag 0 = tag.size) (h3 : preS tag ⟨#[33, 60]⟩ = true) : 3 ≤ tag.size ∧ trimS (cutS tag ⟨#[33, 60]⟩) ⟨#[62]⟩ = tag.extract 2 (tag.size - 1) := by
  obtain ⟨⟨l⟩⟩ := tag
  have hl : sizeL l = l.length := by
    rw [sizeZ] at h1
    split at h1
    · rename_i h
      have h0 : l.length = 0 := by
        rcases h with h | h
        · omega
        · have : (l.length : Int) ≤ 0 := h
          omega
      rw [size_nil l h0]; rfl
    · exact h1
  match l, h3 with
  | [c], h3 =>
    have h3' : Lib.hasPrefix [c] [33, 60] = true := h3
    simp [Lib.hasPrefix, List.isPrefixOf] at h3'
  | c :: d :: r, h3 =>
    have h3' : Lib.hasPrefix (c :: d :: r) [33, 60] = true := h3
    rw [pre2] at h3'
    have hc : (33 : UInt8) = c ∧ d = 60 := by simpa using h3'
    obtain ⟨rfl, rfl⟩ := hc
    rw [size_lt _ rfl rfl] at hl
    split at hl
    · rename_i hu
      have hd : (33 :: 60 :: r : Bs).drop 2 = r := rfl
      rw [hd] at hl hu
      have hlen : urisL false r + 1 = r.length := by simp at hl; omega
      have hlast : r[r.length - 1]? = some 62 := by
        have := hu.2
        rw [show 2 + urisL false r = urisL false r + 1 + 1 from by omega, List.getElem?_cons_succ, List.getElem?_cons_succ] at this
        rw [show r.length - 1 = urisL false r from by omega]
        exact this
      refine ⟨by show 3 ≤ (33 :: 60 :: r : Bs).length; simp; omega, ?_⟩
      have e1 : cutS ⟨⟨33 :: 60 :: r⟩⟩ ⟨#[33, 60]⟩ = mkS r := by
        rw [cutS, Lib.trimPrefix, if_pos (show Lib.hasPrefix _ _ = true from h3)]; rfl
      rw [e1, trimS, mkS_list]
      have hs : Lib.hasSuffix r [62] = true := by
        rw [Lib.hasSuffix, List.isSuffixOf_iff_suffix]
        refine ⟨r.take (r.length - 1), ?_⟩
        have := List.take_append_drop (r.length - 1) r
        rw [List.drop_eq_getElem_cons (by omega)] at this
        rw [List.getElem?_eq_getElem (by omega)] at hlast
        rw [Option.some.inj hlast, List.drop_eq_nil_of_le (by omega)] at this
        exact this
      show mkS (Lib.trimSuffix r [62]) = _
      rw [Lib.trimSuffix, if_pos hs]
      apply ByteArray.ext
      apply Array.toList_inj.1
      rw [ByteArray.data_extract, Array.toList_extract]
      show List.take (r.length - 1) r = List.take ((33 :: 60 :: r : Bs).length - 1 - 2) (List.drop 2 (33 :: 60 :: r))
      simp
    · simp at hl

set_option maxRecDepth 100000 in
set_option maxHeartbeats 1000000 in
theorem refFull_any (A : Option Addr) (n c : Nat) (ss : List ByteArray) (tag : ByteArray) (w : World) (hN : n ≤ 140737488355328) (hR : ReadsS w w.heap.size A n ss) (hsz : Hid (∀ d ∈ ss, d.size ≤ 140737488355328)) (hs : tag.size ≤ 140737488355327) :
    Calls Tryd.prog 11 #[.slice A n c, .string tag] w fun e w' => e = .returned (.tuple #[.string (fullS ss tag).1, .int .i64 (fullS ss tag).2]) ∧ Below w.heap.size w w' := by
  by_cases h0 : tag.size = 0
  · have he : tag.toList = [] := toList_nil h0
    have he2 : tag.toList.isEmpty = true := by rw [he]; rfl
    have HF : Hid (fullS ss tag = (⟨#[]⟩, 8)) := Lib.hid (by rw [fullS, if_pos (.inl h0)])
    clear h0
    go_enter Tryd.func11, Tryd.ntmps11
    go_wp2
    go_ret2
    exact ⟨ret_si HF.out, Below.refl _ _⟩
  · have he : tag.toList.isEmpty = false := toList_cons h0
    have hne : ¬ tag.toList = [] := by
      intro h
      rw [h] at he
      cases he
    by_cases h1 : sizeZ tag 0 = tag.size
    · have H1 := Lib.hid h1
      clear h1
      cases h2 : (tag.toList == [33])
      · have hlen : 1 < tag.size := by
          rcases Nat.lt_or_ge 1 tag.size with h | h
          · exact h
          · exfalso
            have h1 : tag.data.toList.length = 1 := by show tag.size = 1; omega
            obtain ⟨x, hx⟩ := List.length_eq_one_iff.1 h1
            have h4 := H1.out
            rw [sizeZ_nought, hx] at h4
            rw [Lib.toList_data, hx] at h2
            rw [sizeL] at h4
            split at h4
            · omega
            · rename_i h5
              simp at h5
              rw [h5] at h2
              cases h2
        cases h3 : preS tag ⟨#[33, 60]⟩
        · obtain ⟨_, x2, _, x4, x5, x6⟩ := full_shape tag h0 H1.out h3
          have h60 : ((tag[1].toNat : Int) == 60) = false := by
            cases h6 : ((tag[1].toNat : Int) == 60)
            · rfl
            · exfalso
              have h7 : tag[1] = 60 := by rw [← UInt8.toNat_inj]; simp at h6 ⊢; omega
              have h8 := H1.out
              rw [sizeZ_nought, sizeL] at h8
              split at h8
              · omega
              · rename_i h9
                have h9' : tag.data.toList.head? = some 33 := by simpa using h9
                rw [preS, ← List.drop_zero (l := tag.data.toList), drop_step tag 0 (by omega), drop_step tag 1 hlen] at h3
                rw [← List.drop_zero (l := tag.data.toList), drop_step tag 0 (by omega)] at h9'
                have h10 : tag[0] = 33 := by simpa using h9'
                have h11 : Lib.hasPrefix (tag[0] :: tag[1] :: List.drop (1 + 1) tag.data.toList) [33, 60] = false := h3
                rw [pre2, h10, h7] at h11
                cases h11
          exact refFull_tail A n c ss tag w (cutI tag) hN hR hsz hs he hne H1 h2 hlen h60 x5 x2 (Lib.hid x6) (Lib.hid (okP_at x4)) (Lib.hid (by
            rw [fullS, if_neg (by simp [h0, H1.out]), if_neg (by simp [h2]), if_neg (by simp [h3]), told_drop]))
        · obtain ⟨b1, b2⟩ := between tag H1.out h3
          have HF : Hid (fullS ss tag = (tag.extract 2 (tag.size - 1), 0)) := Lib.hid (by
            rw [fullS, if_neg (by simp [h0, H1.out]), if_neg (by simp [h2]), if_pos h3, b2])
          have h60 : ((tag[1].toNat : Int) == 60) = true := by
            rw [preS, ← List.drop_zero (l := tag.data.toList), drop_step tag 0 (by omega), drop_step tag 1 hlen] at h3
            have h11 : Lib.hasPrefix (tag[0] :: tag[1] :: List.drop (1 + 1) tag.data.toList) [33, 60] = true := h3
            rw [pre2] at h11
            have : tag[1] = 60 := by
              have := h11
              simp at this
              exact this.2
            rw [this]; rfl
          have hlen' : ((1 : Int) < (tag.size : Int)) := by omega
          clear b2 h3
          go_enter Tryd.func11, Tryd.ntmps11
          go_wp2_with (go_at_call 13; refine (refSize_any _ _ _ hs).mono ?_; rintro e w' ⟨n, rfl, Hn, rfl⟩; obtain rfl : n = tag.size := Hn.out.trans H1.out)
          go_ret2
          exact ⟨ret_si (by rw [HF.out]), Below.refl _ _⟩
      · have HF : Hid (fullS ss tag = (⟨#[33]⟩, 0)) := Lib.hid (by
          have h4 : tag = ⟨#[33]⟩ := by
            rw [beq_iff_eq, Lib.toList_data] at h2
            apply ByteArray.ext
            apply Array.toList_inj.1
            exact h2
          rw [fullS, if_neg (by simp [h0, H1.out]), if_pos h2, h4])
        go_enter Tryd.func11, Tryd.ntmps11
        go_wp2_with (go_at_call 13; refine (refSize_any _ _ _ hs).mono ?_; rintro e w' ⟨n, rfl, Hn, rfl⟩; obtain rfl : n = tag.size := Hn.out.trans H1.out)
        go_ret2
        exact ⟨ret_si HF.out, Below.refl _ _⟩
    · have HF : Hid (fullS ss tag = (⟨#[]⟩, 8)) := Lib.hid (by rw [fullS, if_pos (.inr h1)])
      have H1 := Lib.hid h1
      clear h1
      go_enter Tryd.func11, Tryd.ntmps11
      go_wp2_with (go_at_call 13; refine (refSize_any _ _ _ hs).mono ?_; rintro e w' ⟨n, rfl, Hn, rfl⟩; have hnn : ((n : Int) != (tag.size : Int)) = true := (by rw [bne_iff_ne]; intro h; exact H1.out (by rw [← Hn.out]; omega)))
      go_ret2
      exact ⟨ret_si HF.out, Below.refl _ _⟩
end Go.Proofs.YtabdhfpohodohaaDoor
