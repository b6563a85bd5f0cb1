/-
A walk over trees, into a truth.
-/
import Derived.Test.YthfmepmchaofjaaGreatLfB
set_option linter.all false
namespace Go.Proofs.YthfmepmchaofjaaGreat.Ev.Lf
noncomputable section
open Go Ev Rf
set_option maxRecDepth 2000
set_option maxHeartbeats 4000000
section
variable {G : Nat → List SV → SV → Prop} {Γ : qC}
set_option maxRecDepth 4000 in
theorem p51B (hc74 : ∀ d l H Q, jVm d l H Q → Γ d 74 l H Q) (hcE : ∀ d l H Q, jKb d l H Q → Γ d 75 l H Q) (hc51 : ∀ d l H Q, oH d l H Q → Γ d 51 l H Q) (d : Nat) (l : List SV) (H : Hp) (Q : Q2) (h : oH (d + 1) l H Q) : wF (PT.C G) Γ LL d 51 g51 l H Q := by
 obtain ⟨c0, o, t, cs, hNC, rfl, rfl, hT, hO, hd, hQ⟩ := h
 have hNC0 := hNC
 obtain ⟨ck, cn1, cn2, cn3, cm4, cv4, cm5, cv5, cm6, cv6, ckr, cfr, cb0, crn, crv, rfl⟩ := hNC0
 obtain ⟨k, x, ks, ld, ft, tr⟩ := t
 obtain ⟨n1, n2, n3, m4, v4, m5, v5, kr, lv, fr, b, rn, rv, rfl, hK, hLv, hF, htr⟩ := hT
 simp only [okT] at hO
 obtain ⟨ox, oks, old, oft, otr, bk, bl, bf⟩ := hO
 simp only [wtT] at hd
 have e1 : LL = 2000000000000 := rfl
 have e2 : NB = 1000000 := rfl
 have hlen := wA hK
 have hfl := yK hF
 have hox : x.1 ≤ 200000000000 := ox
 have fin : ∀ o' : Bool, o' = (o || !(qH (.mk k x ks ld ft tr)).isEmpty) → Q (.tup []) (HB1 [.i .i64 ck, .i .i64 cn1, .i .i64 cn2, .i .i64 cn3, .s cm4 cv4, .s cm5 cv5, .s cm6 cv6, .qx 12 ckr, .sl0, .qx 2 cfr, .b cb0, .s crn crv] (o')) := by
  rintro _ rfl; exact hQ
 rcases hLv with ⟨lr, rfl, hL⟩ | ⟨rfl, rfl⟩
 ·have hll := yK hL
  refine Or.inl ?_
  refine jN 0 ⟨[1, 2, 3, 13, 14], [], Nat, fun i => [(15, .i .i64 (i : Int))], fun i => HB1 [.i .i64 ck, .i .i64 cn1, .i .i64 cn2, .i .i64 cn3, .s cm4 cv4, .s cm5 cv5, .s cm6 cv6, .qx 12 ckr, .sl0, .qx 2 cfr, .b cb0, .s crn crv] (o || !(ld.take i).isEmpty) ++ [⟨51, 0, .l [.i .i64 k, .i .i64 n1, .i .i64 n2, .i .i64 n3, .s m4 v4, .s m5 v5, .s x.1 x.2, .qx 12 kr, .qx 2 lr, .qx 2 fr, .b b, .s rn rv]⟩], fun i => i ≤ ld.length, fun i => ld.length - i, ⟨0, ⟨⟨_, rfl, rfl⟩, ⟨_, rfl, rfl⟩, ⟨_, rfl, rfl⟩, ⟨_, rfl, rfl⟩, ⟨_, rfl, rfl⟩, ⟨_, rfl, rfl⟩, trivial⟩, ?_, Nat.zero_le _, ?_⟩, ?_⟩
  ·refine congrArg (fun o' => HB1 [.i .i64 ck, .i .i64 cn1, .i .i64 cn2, .i .i64 cn3, .s cm4 cv4, .s cm5 cv5, .s cm6 cv6, .qx 12 ckr, .sl0, .qx 2 cfr, .b cb0, .s crn crv] (o') ++ [⟨51, 0, .l [.i .i64 k, .i .i64 n1, .i .i64 n2, .i .i64 n3, .s m4 v4, .s m5 v5, .s x.1 x.2, .qx 12 kr, .qx 2 lr, .qx 2 fr, .b b, .s rn rv]⟩]) (?_ : (o) = (o || !(ld.take 0).isEmpty))
   simp
  ·show ld.length - 0 < LL
   omega
  intro i hi
  refine And.intro (fun hlt => ?_) (fun hge => ?_)
  ·refine And.intro ⟨by omega, by omega⟩ ?_
   intro p hp
   obtain ⟨q, kk, bb, hq, rfl⟩ := qY hL (k := i) (by simpa using hp)
   have hqx := old q (List.mem_of_getElem? hq)
   unfold okX at hqx
   refine Or.inl ?_
   refine Or.inl ?_
   refine hc74 _ _ _ _ ⟨_, _, _, _, hNC, rfl, rfl, by omega, ?_⟩
   have hst : (o || !(ld.take (i + 1)).isEmpty) = true := by rw [jI hq]; simp
   refine And.intro ⟨by omega, by omega⟩ ?_
   refine Or.inl ?_
   refine ⟨i + 1, ⟨⟨_, rfl, rfl⟩, ⟨_, rfl, rfl⟩, ⟨_, rfl, rfl⟩, ⟨_, rfl, rfl⟩, ⟨_, rfl, rfl⟩, ⟨_, rfl, rfl⟩, trivial⟩, ?_, ?_, ?_⟩
   ·show xH (HB1 [.i .i64 ck, .i .i64 cn1, .i .i64 cn2, .i .i64 cn3, .s cm4 cv4, .s cm5 cv5, .s cm6 cv6, .qx 12 ckr, .sl0, .qx 2 cfr, .b cb0, .s crn crv] (o || !(ld.take (i + 1)).isEmpty) ++ [⟨51, 0, .l [.i .i64 k, .i .i64 n1, .i .i64 n2, .i .i64 n3, .s m4 v4, .s m5 v5, .s x.1 x.2, .qx 12 kr, .qx 2 lr, .qx 2 fr, .b b, .s rn rv]⟩]) _
    rw [hst]
    exact ⟨rfl, rfl, rfl, trivial⟩
   ·show i + 1 ≤ ld.length; omega
   ·show ld.length - (i + 1) < ld.length - i; omega
  ·obtain rfl : i = ld.length := by omega
   refine And.intro (fun hk2 => ?_) (fun hk2 => ?_)
   ·refine Or.inl ?_
    refine Or.inl ?_
    refine And.intro (by omega) ?_
    intro _ _
    refine hcE _ _ _ _ ⟨_, _, rfl, rfl, by omega, ?_⟩
    refine uB ?_
    refine Or.inl ?_
    refine jN 3 ⟨[1, 2, 3, 48, 49], [], Nat, fun i => [(50, .i .i64 (i : Int))], fun i => HB1 [.i .i64 ck, .i .i64 cn1, .i .i64 cn2, .i .i64 cn3, .s cm4 cv4, .s cm5 cv5, .s cm6 cv6, .qx 12 ckr, .sl0, .qx 2 cfr, .b cb0, .s crn crv] ((o || !ld.isEmpty) || !(jB (ks.take i)).isEmpty) ++ [⟨51, 0, .l [.i .i64 k, .i .i64 n1, .i .i64 n2, .i .i64 n3, .s m4 v4, .s m5 v5, .s x.1 x.2, .qx 12 kr, .qx 2 lr, .qx 2 fr, .b b, .s rn rv]⟩], fun i => i ≤ ks.length, fun i => ks.length - i, ⟨0, ⟨⟨_, rfl, rfl⟩, ⟨_, rfl, rfl⟩, ⟨_, rfl, rfl⟩, ⟨_, rfl, rfl⟩, ⟨_, rfl, rfl⟩, ⟨_, rfl, rfl⟩, trivial⟩, ?_, Nat.zero_le _, ?_⟩, ?_⟩
    ·refine congrArg (fun o' => HB1 [.i .i64 ck, .i .i64 cn1, .i .i64 cn2, .i .i64 cn3, .s cm4 cv4, .s cm5 cv5, .s cm6 cv6, .qx 12 ckr, .sl0, .qx 2 cfr, .b cb0, .s crn crv] (o') ++ [⟨51, 0, .l [.i .i64 k, .i .i64 n1, .i .i64 n2, .i .i64 n3, .s m4 v4, .s m5 v5, .s x.1 x.2, .qx 12 kr, .qx 2 lr, .qx 2 fr, .b b, .s rn rv]⟩]) (?_ : (o || !(ld.take ld.length).isEmpty) = ((o || !ld.isEmpty) || !(jB (ks.take 0)).isEmpty))
     rw [List.take_length]; simp [jB]
    ·show ks.length - 0 < LL
     omega
    intro i hi
    refine And.intro (fun hlt => ?_) (fun hge => ?_)
    ·refine And.intro ⟨by omega, by omega⟩ ?_
     intro p hp
     obtain ⟨t', ht', hr⟩ := qK hK (k := i) (by simpa using hp)
     have hr' := uM hr
     have hw := qL ht'
     have hot := qI oks ht'
     have hst : ((o || !ld.isEmpty) || !(jB (ks.take (i + 1))).isEmpty) = (((o || !ld.isEmpty) || !(jB (ks.take i)).isEmpty) || !(qH t').isEmpty) := by
      rw [jI ht', zF]
      simp only [jB, List.append_nil, xB, Bool.not_and, Bool.or_assoc]
     obtain ⟨k', x', ks', ld', ft', tr'⟩ := t'
     simp only [isT] at hr
     obtain ⟨n1', n2', n3', m4', v4', m5', v5', kr', lr', fr', b', rn', rv', rfl, _⟩ := hr
     refine Or.inl ?_
     refine Or.inl ?_
     refine Or.inl ?_
     refine Or.inl ?_
     refine hc51 _ _ _ _ ⟨_, _, (.mk k' x' ks' ld' ft' tr'), _, hNC, rfl, rfl, hr', hot, by omega, ?_⟩
     refine And.intro ⟨by omega, by omega⟩ ?_
     refine Or.inl ?_
     refine ⟨i + 1, ⟨⟨_, rfl, rfl⟩, ⟨_, rfl, rfl⟩, ⟨_, rfl, rfl⟩, ⟨_, rfl, rfl⟩, ⟨_, rfl, rfl⟩, ⟨_, rfl, rfl⟩, trivial⟩, ?_, ?_, ?_⟩
     ·show xH (HB1 [.i .i64 ck, .i .i64 cn1, .i .i64 cn2, .i .i64 cn3, .s cm4 cv4, .s cm5 cv5, .s cm6 cv6, .qx 12 ckr, .sl0, .qx 2 cfr, .b cb0, .s crn crv] ((o || !ld.isEmpty) || !(jB (ks.take (i + 1))).isEmpty) ++ [⟨51, 0, .l [.i .i64 k, .i .i64 n1, .i .i64 n2, .i .i64 n3, .s m4 v4, .s m5 v5, .s x.1 x.2, .qx 12 kr, .qx 2 lr, .qx 2 fr, .b b, .s rn rv]⟩]) _
      rw [hst]
      exact ⟨rfl, rfl, rfl, trivial⟩
     ·show i + 1 ≤ ks.length; omega
     ·show ks.length - (i + 1) < ks.length - i; omega
    ·obtain rfl : i = ks.length := by omega
     refine Or.inl ?_
     refine jN 5 ⟨[1, 2, 3, 60, 61], [], Nat, fun i => [(62, .i .i64 (i : Int))], fun i => HB1 [.i .i64 ck, .i .i64 cn1, .i .i64 cn2, .i .i64 cn3, .s cm4 cv4, .s cm5 cv5, .s cm6 cv6, .qx 12 ckr, .sl0, .qx 2 cfr, .b cb0, .s crn crv] (((o || !ld.isEmpty) || !(jB ks).isEmpty) || !(ft.take i).isEmpty) ++ [⟨51, 0, .l [.i .i64 k, .i .i64 n1, .i .i64 n2, .i .i64 n3, .s m4 v4, .s m5 v5, .s x.1 x.2, .qx 12 kr, .qx 2 lr, .qx 2 fr, .b b, .s rn rv]⟩], fun i => i ≤ ft.length, fun i => ft.length - i, ⟨0, ⟨⟨_, rfl, rfl⟩, ⟨_, rfl, rfl⟩, ⟨_, rfl, rfl⟩, ⟨_, rfl, rfl⟩, ⟨_, rfl, rfl⟩, ⟨_, rfl, rfl⟩, trivial⟩, ?_, Nat.zero_le _, ?_⟩, ?_⟩
     ·refine congrArg (fun o' => HB1 [.i .i64 ck, .i .i64 cn1, .i .i64 cn2, .i .i64 cn3, .s cm4 cv4, .s cm5 cv5, .s cm6 cv6, .qx 12 ckr, .sl0, .qx 2 cfr, .b cb0, .s crn crv] (o') ++ [⟨51, 0, .l [.i .i64 k, .i .i64 n1, .i .i64 n2, .i .i64 n3, .s m4 v4, .s m5 v5, .s x.1 x.2, .qx 12 kr, .qx 2 lr, .qx 2 fr, .b b, .s rn rv]⟩]) (?_ : ((o || !ld.isEmpty) || !(jB (ks.take ks.length)).isEmpty) = (((o || !ld.isEmpty) || !(jB ks).isEmpty) || !(ft.take 0).isEmpty))
      rw [List.take_length]; simp
     ·show ft.length - 0 < LL
      omega
     intro i hi
     refine And.intro (fun hlt => ?_) (fun hge => ?_)
     ·refine And.intro ⟨by omega, by omega⟩ ?_
      intro p hp
      obtain ⟨q, kk, bb, hq, rfl⟩ := qY hF (k := i) (by simpa using hp)
      have hqx := oft q (List.mem_of_getElem? hq)
      unfold okX at hqx
      refine Or.inl ?_
      refine Or.inl ?_
      refine hc74 _ _ _ _ ⟨_, _, _, _, hNC, rfl, rfl, by omega, ?_⟩
      have hst : (((o || !ld.isEmpty) || !(jB ks).isEmpty) || !(ft.take (i + 1)).isEmpty) = true := by rw [jI hq]; simp
      refine And.intro ⟨by omega, by omega⟩ ?_
      refine Or.inl ?_
      refine ⟨i + 1, ⟨⟨_, rfl, rfl⟩, ⟨_, rfl, rfl⟩, ⟨_, rfl, rfl⟩, ⟨_, rfl, rfl⟩, ⟨_, rfl, rfl⟩, ⟨_, rfl, rfl⟩, trivial⟩, ?_, ?_, ?_⟩
      ·show xH (HB1 [.i .i64 ck, .i .i64 cn1, .i .i64 cn2, .i .i64 cn3, .s cm4 cv4, .s cm5 cv5, .s cm6 cv6, .qx 12 ckr, .sl0, .qx 2 cfr, .b cb0, .s crn crv] (((o || !ld.isEmpty) || !(jB ks).isEmpty) || !(ft.take (i + 1)).isEmpty) ++ [⟨51, 0, .l [.i .i64 k, .i .i64 n1, .i .i64 n2, .i .i64 n3, .s m4 v4, .s m5 v5, .s x.1 x.2, .qx 12 kr, .qx 2 lr, .qx 2 fr, .b b, .s rn rv]⟩]) _
       rw [hst]
       exact ⟨rfl, rfl, rfl, trivial⟩
      ·show i + 1 ≤ ft.length; omega
      ·show ft.length - (i + 1) < ft.length - i; omega
     ·obtain rfl : i = ft.length := by omega
      refine qM (fun hb => ?_) (fun hb => ?_)
      ·rw [if_pos hb] at htr
       have hrn : rn ≤ 200000000000 := otr _ htr
       refine Or.inl ?_
       refine hc74 _ _ _ _ ⟨_, _, _, _, hNC, rfl, rfl, by omega, ?_⟩
       refine fin _ ?_
       simp [qH, htr, trT]
      ·rw [if_neg (by simp [hb])] at htr
       refine fin _ ?_
       rw [List.take_length]
       simp only [qH, htr, trT, xB, wQ, List.append_nil, Bool.not_and, Bool.or_assoc]
   ·refine Or.inl ?_
    refine And.intro (fun hk => ?_) (fun hk => ?_)
    ·refine Or.inl ?_
     intro _ _
     refine And.intro (fun hx => ?_) (fun hx => ?_)
     ·refine Or.inl ?_
      refine Or.inl ?_
      refine And.intro (by omega) ?_
      intro _ _
      refine hcE _ _ _ _ ⟨_, _, rfl, rfl, by omega, ?_⟩
      refine uB ?_
      refine Or.inl ?_
      refine jN 3 ⟨[1, 2, 3, 48, 49], [], Nat, fun i => [(50, .i .i64 (i : Int))], fun i => HB1 [.i .i64 ck, .i .i64 cn1, .i .i64 cn2, .i .i64 cn3, .s cm4 cv4, .s cm5 cv5, .s cm6 cv6, .qx 12 ckr, .sl0, .qx 2 cfr, .b cb0, .s crn crv] ((o || !ld.isEmpty) || !(jB (ks.take i)).isEmpty) ++ [⟨51, 0, .l [.i .i64 k, .i .i64 n1, .i .i64 n2, .i .i64 n3, .s m4 v4, .s m5 v5, .s x.1 x.2, .qx 12 kr, .qx 2 lr, .qx 2 fr, .b b, .s rn rv]⟩], fun i => i ≤ ks.length, fun i => ks.length - i, ⟨0, ⟨⟨_, rfl, rfl⟩, ⟨_, rfl, rfl⟩, ⟨_, rfl, rfl⟩, ⟨_, rfl, rfl⟩, ⟨_, rfl, rfl⟩, ⟨_, rfl, rfl⟩, trivial⟩, ?_, Nat.zero_le _, ?_⟩, ?_⟩
      ·refine congrArg (fun o' => HB1 [.i .i64 ck, .i .i64 cn1, .i .i64 cn2, .i .i64 cn3, .s cm4 cv4, .s cm5 cv5, .s cm6 cv6, .qx 12 ckr, .sl0, .qx 2 cfr, .b cb0, .s crn crv] (o') ++ [⟨51, 0, .l [.i .i64 k, .i .i64 n1, .i .i64 n2, .i .i64 n3, .s m4 v4, .s m5 v5, .s x.1 x.2, .qx 12 kr, .qx 2 lr, .qx 2 fr, .b b, .s rn rv]⟩]) (?_ : (o || !(ld.take ld.length).isEmpty) = ((o || !ld.isEmpty) || !(jB (ks.take 0)).isEmpty))
       rw [List.take_length]; simp [jB]
      ·show ks.length - 0 < LL
       omega
      intro i hi
      refine And.intro (fun hlt => ?_) (fun hge => ?_)
      ·refine And.intro ⟨by omega, by omega⟩ ?_
       intro p hp
       obtain ⟨t', ht', hr⟩ := qK hK (k := i) (by simpa using hp)
       have hr' := uM hr
       have hw := qL ht'
       have hot := qI oks ht'
       have hst : ((o || !ld.isEmpty) || !(jB (ks.take (i + 1))).isEmpty) = (((o || !ld.isEmpty) || !(jB (ks.take i)).isEmpty) || !(qH t').isEmpty) := by
        rw [jI ht', zF]
        simp only [jB, List.append_nil, xB, Bool.not_and, Bool.or_assoc]
       obtain ⟨k', x', ks', ld', ft', tr'⟩ := t'
       simp only [isT] at hr
       obtain ⟨n1', n2', n3', m4', v4', m5', v5', kr', lr', fr', b', rn', rv', rfl, _⟩ := hr
       refine Or.inl ?_
       refine Or.inl ?_
       refine Or.inl ?_
       refine Or.inl ?_
       refine hc51 _ _ _ _ ⟨_, _, (.mk k' x' ks' ld' ft' tr'), _, hNC, rfl, rfl, hr', hot, by omega, ?_⟩
       refine And.intro ⟨by omega, by omega⟩ ?_
       refine Or.inl ?_
       refine ⟨i + 1, ⟨⟨_, rfl, rfl⟩, ⟨_, rfl, rfl⟩, ⟨_, rfl, rfl⟩, ⟨_, rfl, rfl⟩, ⟨_, rfl, rfl⟩, ⟨_, rfl, rfl⟩, trivial⟩, ?_, ?_, ?_⟩
       ·show xH (HB1 [.i .i64 ck, .i .i64 cn1, .i .i64 cn2, .i .i64 cn3, .s cm4 cv4, .s cm5 cv5, .s cm6 cv6, .qx 12 ckr, .sl0, .qx 2 cfr, .b cb0, .s crn crv] ((o || !ld.isEmpty) || !(jB (ks.take (i + 1))).isEmpty) ++ [⟨51, 0, .l [.i .i64 k, .i .i64 n1, .i .i64 n2, .i .i64 n3, .s m4 v4, .s m5 v5, .s x.1 x.2, .qx 12 kr, .qx 2 lr, .qx 2 fr, .b b, .s rn rv]⟩]) _
        rw [hst]
        exact ⟨rfl, rfl, rfl, trivial⟩
       ·show i + 1 ≤ ks.length; omega
       ·show ks.length - (i + 1) < ks.length - i; omega
      ·obtain rfl : i = ks.length := by omega
       refine Or.inl ?_
       refine jN 5 ⟨[1, 2, 3, 60, 61], [], Nat, fun i => [(62, .i .i64 (i : Int))], fun i => HB1 [.i .i64 ck, .i .i64 cn1, .i .i64 cn2, .i .i64 cn3, .s cm4 cv4, .s cm5 cv5, .s cm6 cv6, .qx 12 ckr, .sl0, .qx 2 cfr, .b cb0, .s crn crv] (((o || !ld.isEmpty) || !(jB ks).isEmpty) || !(ft.take i).isEmpty) ++ [⟨51, 0, .l [.i .i64 k, .i .i64 n1, .i .i64 n2, .i .i64 n3, .s m4 v4, .s m5 v5, .s x.1 x.2, .qx 12 kr, .qx 2 lr, .qx 2 fr, .b b, .s rn rv]⟩], fun i => i ≤ ft.length, fun i => ft.length - i, ⟨0, ⟨⟨_, rfl, rfl⟩, ⟨_, rfl, rfl⟩, ⟨_, rfl, rfl⟩, ⟨_, rfl, rfl⟩, ⟨_, rfl, rfl⟩, ⟨_, rfl, rfl⟩, trivial⟩, ?_, Nat.zero_le _, ?_⟩, ?_⟩
       ·refine congrArg (fun o' => HB1 [.i .i64 ck, .i .i64 cn1, .i .i64 cn2, .i .i64 cn3, .s cm4 cv4, .s cm5 cv5, .s cm6 cv6, .qx 12 ckr, .sl0, .qx 2 cfr, .b cb0, .s crn crv] (o') ++ [⟨51, 0, .l [.i .i64 k, .i .i64 n1, .i .i64 n2, .i .i64 n3, .s m4 v4, .s m5 v5, .s x.1 x.2, .qx 12 kr, .qx 2 lr, .qx 2 fr, .b b, .s rn rv]⟩]) (?_ : ((o || !ld.isEmpty) || !(jB (ks.take ks.length)).isEmpty) = (((o || !ld.isEmpty) || !(jB ks).isEmpty) || !(ft.take 0).isEmpty))
        rw [List.take_length]; simp
       ·show ft.length - 0 < LL
        omega
       intro i hi
       refine And.intro (fun hlt => ?_) (fun hge => ?_)
       ·refine And.intro ⟨by omega, by omega⟩ ?_
        intro p hp
        obtain ⟨q, kk, bb, hq, rfl⟩ := qY hF (k := i) (by simpa using hp)
        have hqx := oft q (List.mem_of_getElem? hq)
        unfold okX at hqx
        refine Or.inl ?_
        refine Or.inl ?_
        refine hc74 _ _ _ _ ⟨_, _, _, _, hNC, rfl, rfl, by omega, ?_⟩
        have hst : (((o || !ld.isEmpty) || !(jB ks).isEmpty) || !(ft.take (i + 1)).isEmpty) = true := by rw [jI hq]; simp
        refine And.intro ⟨by omega, by omega⟩ ?_
        refine Or.inl ?_
        refine ⟨i + 1, ⟨⟨_, rfl, rfl⟩, ⟨_, rfl, rfl⟩, ⟨_, rfl, rfl⟩, ⟨_, rfl, rfl⟩, ⟨_, rfl, rfl⟩, ⟨_, rfl, rfl⟩, trivial⟩, ?_, ?_, ?_⟩
        ·show xH (HB1 [.i .i64 ck, .i .i64 cn1, .i .i64 cn2, .i .i64 cn3, .s cm4 cv4, .s cm5 cv5, .s cm6 cv6, .qx 12 ckr, .sl0, .qx 2 cfr, .b cb0, .s crn crv] (((o || !ld.isEmpty) || !(jB ks).isEmpty) || !(ft.take (i + 1)).isEmpty) ++ [⟨51, 0, .l [.i .i64 k, .i .i64 n1, .i .i64 n2, .i .i64 n3, .s m4 v4, .s m5 v5, .s x.1 x.2, .qx 12 kr, .qx 2 lr, .qx 2 fr, .b b, .s rn rv]⟩]) _
         rw [hst]
         exact ⟨rfl, rfl, rfl, trivial⟩
        ·show i + 1 ≤ ft.length; omega
        ·show ft.length - (i + 1) < ft.length - i; omega
       ·obtain rfl : i = ft.length := by omega
        refine qM (fun hb => ?_) (fun hb => ?_)
        ·rw [if_pos hb] at htr
         have hrn : rn ≤ 200000000000 := otr _ htr
         refine Or.inl ?_
         refine hc74 _ _ _ _ ⟨_, _, _, _, hNC, rfl, rfl, by omega, ?_⟩
         refine fin _ ?_
         simp [qH, htr, trT]
        ·rw [if_neg (by simp [hb])] at htr
         refine fin _ ?_
         rw [List.take_length]
         simp only [qH, htr, trT, xB, wQ, List.append_nil, Bool.not_and, Bool.or_assoc]
     ·refine Or.inl ?_
      refine Or.inl ?_
      refine jN 3 ⟨[1, 2, 3, 48, 49], [], Nat, fun i => [(50, .i .i64 (i : Int))], fun i => HB1 [.i .i64 ck, .i .i64 cn1, .i .i64 cn2, .i .i64 cn3, .s cm4 cv4, .s cm5 cv5, .s cm6 cv6, .qx 12 ckr, .sl0, .qx 2 cfr, .b cb0, .s crn crv] ((o || !ld.isEmpty) || !(jB (ks.take i)).isEmpty) ++ [⟨51, 0, .l [.i .i64 k, .i .i64 n1, .i .i64 n2, .i .i64 n3, .s m4 v4, .s m5 v5, .s x.1 x.2, .qx 12 kr, .qx 2 lr, .qx 2 fr, .b b, .s rn rv]⟩], fun i => i ≤ ks.length, fun i => ks.length - i, ⟨0, ⟨⟨_, rfl, rfl⟩, ⟨_, rfl, rfl⟩, ⟨_, rfl, rfl⟩, ⟨_, rfl, rfl⟩, ⟨_, rfl, rfl⟩, ⟨_, rfl, rfl⟩, trivial⟩, ?_, Nat.zero_le _, ?_⟩, ?_⟩
      ·refine congrArg (fun o' => HB1 [.i .i64 ck, .i .i64 cn1, .i .i64 cn2, .i .i64 cn3, .s cm4 cv4, .s cm5 cv5, .s cm6 cv6, .qx 12 ckr, .sl0, .qx 2 cfr, .b cb0, .s crn crv] (o') ++ [⟨51, 0, .l [.i .i64 k, .i .i64 n1, .i .i64 n2, .i .i64 n3, .s m4 v4, .s m5 v5, .s x.1 x.2, .qx 12 kr, .qx 2 lr, .qx 2 fr, .b b, .s rn rv]⟩]) (?_ : (o || !(ld.take ld.length).isEmpty) = ((o || !ld.isEmpty) || !(jB (ks.take 0)).isEmpty))
       rw [List.take_length]; simp [jB]
      ·show ks.length - 0 < LL
       omega
      intro i hi
      refine And.intro (fun hlt => ?_) (fun hge => ?_)
      ·refine And.intro ⟨by omega, by omega⟩ ?_
       intro p hp
       obtain ⟨t', ht', hr⟩ := qK hK (k := i) (by simpa using hp)
       have hr' := uM hr
       have hw := qL ht'
       have hot := qI oks ht'
       have hst : ((o || !ld.isEmpty) || !(jB (ks.take (i + 1))).isEmpty) = (((o || !ld.isEmpty) || !(jB (ks.take i)).isEmpty) || !(qH t').isEmpty) := by
        rw [jI ht', zF]
        simp only [jB, List.append_nil, xB, Bool.not_and, Bool.or_assoc]
       obtain ⟨k', x', ks', ld', ft', tr'⟩ := t'
       simp only [isT] at hr
       obtain ⟨n1', n2', n3', m4', v4', m5', v5', kr', lr', fr', b', rn', rv', rfl, _⟩ := hr
       refine Or.inl ?_
       refine Or.inl ?_
       refine Or.inl ?_
       refine Or.inl ?_
       refine hc51 _ _ _ _ ⟨_, _, (.mk k' x' ks' ld' ft' tr'), _, hNC, rfl, rfl, hr', hot, by omega, ?_⟩
       refine And.intro ⟨by omega, by omega⟩ ?_
       refine Or.inl ?_
       refine ⟨i + 1, ⟨⟨_, rfl, rfl⟩, ⟨_, rfl, rfl⟩, ⟨_, rfl, rfl⟩, ⟨_, rfl, rfl⟩, ⟨_, rfl, rfl⟩, ⟨_, rfl, rfl⟩, trivial⟩, ?_, ?_, ?_⟩
       ·show xH (HB1 [.i .i64 ck, .i .i64 cn1, .i .i64 cn2, .i .i64 cn3, .s cm4 cv4, .s cm5 cv5, .s cm6 cv6, .qx 12 ckr, .sl0, .qx 2 cfr, .b cb0, .s crn crv] ((o || !ld.isEmpty) || !(jB (ks.take (i + 1))).isEmpty) ++ [⟨51, 0, .l [.i .i64 k, .i .i64 n1, .i .i64 n2, .i .i64 n3, .s m4 v4, .s m5 v5, .s x.1 x.2, .qx 12 kr, .qx 2 lr, .qx 2 fr, .b b, .s rn rv]⟩]) _
        rw [hst]
        exact ⟨rfl, rfl, rfl, trivial⟩
       ·show i + 1 ≤ ks.length; omega
       ·show ks.length - (i + 1) < ks.length - i; omega
      ·obtain rfl : i = ks.length := by omega
       refine Or.inl ?_
       refine jN 5 ⟨[1, 2, 3, 60, 61], [], Nat, fun i => [(62, .i .i64 (i : Int))], fun i => HB1 [.i .i64 ck, .i .i64 cn1, .i .i64 cn2, .i .i64 cn3, .s cm4 cv4, .s cm5 cv5, .s cm6 cv6, .qx 12 ckr, .sl0, .qx 2 cfr, .b cb0, .s crn crv] (((o || !ld.isEmpty) || !(jB ks).isEmpty) || !(ft.take i).isEmpty) ++ [⟨51, 0, .l [.i .i64 k, .i .i64 n1, .i .i64 n2, .i .i64 n3, .s m4 v4, .s m5 v5, .s x.1 x.2, .qx 12 kr, .qx 2 lr, .qx 2 fr, .b b, .s rn rv]⟩], fun i => i ≤ ft.length, fun i => ft.length - i, ⟨0, ⟨⟨_, rfl, rfl⟩, ⟨_, rfl, rfl⟩, ⟨_, rfl, rfl⟩, ⟨_, rfl, rfl⟩, ⟨_, rfl, rfl⟩, ⟨_, rfl, rfl⟩, trivial⟩, ?_, Nat.zero_le _, ?_⟩, ?_⟩
       ·refine congrArg (fun o' => HB1 [.i .i64 ck, .i .i64 cn1, .i .i64 cn2, .i .i64 cn3, .s cm4 cv4, .s cm5 cv5, .s cm6 cv6, .qx 12 ckr, .sl0, .qx 2 cfr, .b cb0, .s crn crv] (o') ++ [⟨51, 0, .l [.i .i64 k, .i .i64 n1, .i .i64 n2, .i .i64 n3, .s m4 v4, .s m5 v5, .s x.1 x.2, .qx 12 kr, .qx 2 lr, .qx 2 fr, .b b, .s rn rv]⟩]) (?_ : ((o || !ld.isEmpty) || !(jB (ks.take ks.length)).isEmpty) = (((o || !ld.isEmpty) || !(jB ks).isEmpty) || !(ft.take 0).isEmpty))
        rw [List.take_length]; simp
       ·show ft.length - 0 < LL
        omega
       intro i hi
       refine And.intro (fun hlt => ?_) (fun hge => ?_)
       ·refine And.intro ⟨by omega, by omega⟩ ?_
        intro p hp
        obtain ⟨q, kk, bb, hq, rfl⟩ := qY hF (k := i) (by simpa using hp)
        have hqx := oft q (List.mem_of_getElem? hq)
        unfold okX at hqx
        refine Or.inl ?_
        refine Or.inl ?_
        refine hc74 _ _ _ _ ⟨_, _, _, _, hNC, rfl, rfl, by omega, ?_⟩
        have hst : (((o || !ld.isEmpty) || !(jB ks).isEmpty) || !(ft.take (i + 1)).isEmpty) = true := by rw [jI hq]; simp
        refine And.intro ⟨by omega, by omega⟩ ?_
        refine Or.inl ?_
        refine ⟨i + 1, ⟨⟨_, rfl, rfl⟩, ⟨_, rfl, rfl⟩, ⟨_, rfl, rfl⟩, ⟨_, rfl, rfl⟩, ⟨_, rfl, rfl⟩, ⟨_, rfl, rfl⟩, trivial⟩, ?_, ?_, ?_⟩
        ·show xH (HB1 [.i .i64 ck, .i .i64 cn1, .i .i64 cn2, .i .i64 cn3, .s cm4 cv4, .s cm5 cv5, .s cm6 cv6, .qx 12 ckr, .sl0, .qx 2 cfr, .b cb0, .s crn crv] (((o || !ld.isEmpty) || !(jB ks).isEmpty) || !(ft.take (i + 1)).isEmpty) ++ [⟨51, 0, .l [.i .i64 k, .i .i64 n1, .i .i64 n2, .i .i64 n3, .s m4 v4, .s m5 v5, .s x.1 x.2, .qx 12 kr, .qx 2 lr, .qx 2 fr, .b b, .s rn rv]⟩]) _
         rw [hst]
         exact ⟨rfl, rfl, rfl, trivial⟩
        ·show i + 1 ≤ ft.length; omega
        ·show ft.length - (i + 1) < ft.length - i; omega
       ·obtain rfl : i = ft.length := by omega
        refine qM (fun hb => ?_) (fun hb => ?_)
        ·rw [if_pos hb] at htr
         have hrn : rn ≤ 200000000000 := otr _ htr
         refine Or.inl ?_
         refine hc74 _ _ _ _ ⟨_, _, _, _, hNC, rfl, rfl, by omega, ?_⟩
         refine fin _ ?_
         simp [qH, htr, trT]
        ·rw [if_neg (by simp [hb])] at htr
         refine fin _ ?_
         rw [List.take_length]
         simp only [qH, htr, trT, xB, wQ, List.append_nil, Bool.not_and, Bool.or_assoc]
    ·refine Or.inl ?_
     refine Or.inl ?_
     refine Or.inl ?_
     refine jN 3 ⟨[1, 2, 3, 48, 49], [], Nat, fun i => [(50, .i .i64 (i : Int))], fun i => HB1 [.i .i64 ck, .i .i64 cn1, .i .i64 cn2, .i .i64 cn3, .s cm4 cv4, .s cm5 cv5, .s cm6 cv6, .qx 12 ckr, .sl0, .qx 2 cfr, .b cb0, .s crn crv] ((o || !ld.isEmpty) || !(jB (ks.take i)).isEmpty) ++ [⟨51, 0, .l [.i .i64 k, .i .i64 n1, .i .i64 n2, .i .i64 n3, .s m4 v4, .s m5 v5, .s x.1 x.2, .qx 12 kr, .qx 2 lr, .qx 2 fr, .b b, .s rn rv]⟩], fun i => i ≤ ks.length, fun i => ks.length - i, ⟨0, ⟨⟨_, rfl, rfl⟩, ⟨_, rfl, rfl⟩, ⟨_, rfl, rfl⟩, ⟨_, rfl, rfl⟩, ⟨_, rfl, rfl⟩, ⟨_, rfl, rfl⟩, trivial⟩, ?_, Nat.zero_le _, ?_⟩, ?_⟩
     ·refine congrArg (fun o' => HB1 [.i .i64 ck, .i .i64 cn1, .i .i64 cn2, .i .i64 cn3, .s cm4 cv4, .s cm5 cv5, .s cm6 cv6, .qx 12 ckr, .sl0, .qx 2 cfr, .b cb0, .s crn crv] (o') ++ [⟨51, 0, .l [.i .i64 k, .i .i64 n1, .i .i64 n2, .i .i64 n3, .s m4 v4, .s m5 v5, .s x.1 x.2, .qx 12 kr, .qx 2 lr, .qx 2 fr, .b b, .s rn rv]⟩]) (?_ : (o || !(ld.take ld.length).isEmpty) = ((o || !ld.isEmpty) || !(jB (ks.take 0)).isEmpty))
      rw [List.take_length]; simp [jB]
     ·show ks.length - 0 < LL
      omega
     intro i hi
     refine And.intro (fun hlt => ?_) (fun hge => ?_)
     ·refine And.intro ⟨by omega, by omega⟩ ?_
      intro p hp
      obtain ⟨t', ht', hr⟩ := qK hK (k := i) (by simpa using hp)
      have hr' := uM hr
      have hw := qL ht'
      have hot := qI oks ht'
      have hst : ((o || !ld.isEmpty) || !(jB (ks.take (i + 1))).isEmpty) = (((o || !ld.isEmpty) || !(jB (ks.take i)).isEmpty) || !(qH t').isEmpty) := by
       rw [jI ht', zF]
       simp only [jB, List.append_nil, xB, Bool.not_and, Bool.or_assoc]
      obtain ⟨k', x', ks', ld', ft', tr'⟩ := t'
      simp only [isT] at hr
      obtain ⟨n1', n2', n3', m4', v4', m5', v5', kr', lr', fr', b', rn', rv', rfl, _⟩ := hr
      refine Or.inl ?_
      refine Or.inl ?_
      refine Or.inl ?_
      refine Or.inl ?_
      refine hc51 _ _ _ _ ⟨_, _, (.mk k' x' ks' ld' ft' tr'), _, hNC, rfl, rfl, hr', hot, by omega, ?_⟩
      refine And.intro ⟨by omega, by omega⟩ ?_
      refine Or.inl ?_
      refine ⟨i + 1, ⟨⟨_, rfl, rfl⟩, ⟨_, rfl, rfl⟩, ⟨_, rfl, rfl⟩, ⟨_, rfl, rfl⟩, ⟨_, rfl, rfl⟩, ⟨_, rfl, rfl⟩, trivial⟩, ?_, ?_, ?_⟩
      ·show xH (HB1 [.i .i64 ck, .i .i64 cn1, .i .i64 cn2, .i .i64 cn3, .s cm4 cv4, .s cm5 cv5, .s cm6 cv6, .qx 12 ckr, .sl0, .qx 2 cfr, .b cb0, .s crn crv] ((o || !ld.isEmpty) || !(jB (ks.take (i + 1))).isEmpty) ++ [⟨51, 0, .l [.i .i64 k, .i .i64 n1, .i .i64 n2, .i .i64 n3, .s m4 v4, .s m5 v5, .s x.1 x.2, .qx 12 kr, .qx 2 lr, .qx 2 fr, .b b, .s rn rv]⟩]) _
       rw [hst]
       exact ⟨rfl, rfl, rfl, trivial⟩
      ·show i + 1 ≤ ks.length; omega
      ·show ks.length - (i + 1) < ks.length - i; omega
     ·obtain rfl : i = ks.length := by omega
      refine Or.inl ?_
      refine jN 5 ⟨[1, 2, 3, 60, 61], [], Nat, fun i => [(62, .i .i64 (i : Int))], fun i => HB1 [.i .i64 ck, .i .i64 cn1, .i .i64 cn2, .i .i64 cn3, .s cm4 cv4, .s cm5 cv5, .s cm6 cv6, .qx 12 ckr, .sl0, .qx 2 cfr, .b cb0, .s crn crv] (((o || !ld.isEmpty) || !(jB ks).isEmpty) || !(ft.take i).isEmpty) ++ [⟨51, 0, .l [.i .i64 k, .i .i64 n1, .i .i64 n2, .i .i64 n3, .s m4 v4, .s m5 v5, .s x.1 x.2, .qx 12 kr, .qx 2 lr, .qx 2 fr, .b b, .s rn rv]⟩], fun i => i ≤ ft.length, fun i => ft.length - i, ⟨0, ⟨⟨_, rfl, rfl⟩, ⟨_, rfl, rfl⟩, ⟨_, rfl, rfl⟩, ⟨_, rfl, rfl⟩, ⟨_, rfl, rfl⟩, ⟨_, rfl, rfl⟩, trivial⟩, ?_, Nat.zero_le _, ?_⟩, ?_⟩
      ·refine congrArg (fun o' => HB1 [.i .i64 ck, .i .i64 cn1, .i .i64 cn2, .i .i64 cn3, .s cm4 cv4, .s cm5 cv5, .s cm6 cv6, .qx 12 ckr, .sl0, .qx 2 cfr, .b cb0, .s crn crv] (o') ++ [⟨51, 0, .l [.i .i64 k, .i .i64 n1, .i .i64 n2, .i .i64 n3, .s m4 v4, .s m5 v5, .s x.1 x.2, .qx 12 kr, .qx 2 lr, .qx 2 fr, .b b, .s rn rv]⟩]) (?_ : ((o || !ld.isEmpty) || !(jB (ks.take ks.length)).isEmpty) = (((o || !ld.isEmpty) || !(jB ks).isEmpty) || !(ft.take 0).isEmpty))
       rw [List.take_length]; simp
      ·show ft.length - 0 < LL
       omega
      intro i hi
      refine And.intro (fun hlt => ?_) (fun hge => ?_)
      ·refine And.intro ⟨by omega, by omega⟩ ?_
       intro p hp
       obtain ⟨q, kk, bb, hq, rfl⟩ := qY hF (k := i) (by simpa using hp)
       have hqx := oft q (List.mem_of_getElem? hq)
       unfold okX at hqx
       refine Or.inl ?_
       refine Or.inl ?_
       refine hc74 _ _ _ _ ⟨_, _, _, _, hNC, rfl, rfl, by omega, ?_⟩
       have hst : (((o || !ld.isEmpty) || !(jB ks).isEmpty) || !(ft.take (i + 1)).isEmpty) = true := by rw [jI hq]; simp
       refine And.intro ⟨by omega, by omega⟩ ?_
       refine Or.inl ?_
       refine ⟨i + 1, ⟨⟨_, rfl, rfl⟩, ⟨_, rfl, rfl⟩, ⟨_, rfl, rfl⟩, ⟨_, rfl, rfl⟩, ⟨_, rfl, rfl⟩, ⟨_, rfl, rfl⟩, trivial⟩, ?_, ?_, ?_⟩
       ·show xH (HB1 [.i .i64 ck, .i .i64 cn1, .i .i64 cn2, .i .i64 cn3, .s cm4 cv4, .s cm5 cv5, .s cm6 cv6, .qx 12 ckr, .sl0, .qx 2 cfr, .b cb0, .s crn crv] (((o || !ld.isEmpty) || !(jB ks).isEmpty) || !(ft.take (i + 1)).isEmpty) ++ [⟨51, 0, .l [.i .i64 k, .i .i64 n1, .i .i64 n2, .i .i64 n3, .s m4 v4, .s m5 v5, .s x.1 x.2, .qx 12 kr, .qx 2 lr, .qx 2 fr, .b b, .s rn rv]⟩]) _
        rw [hst]
        exact ⟨rfl, rfl, rfl, trivial⟩
       ·show i + 1 ≤ ft.length; omega
       ·show ft.length - (i + 1) < ft.length - i; omega
      ·obtain rfl : i = ft.length := by omega
       refine qM (fun hb => ?_) (fun hb => ?_)
       ·rw [if_pos hb] at htr
        have hrn : rn ≤ 200000000000 := otr _ htr
        refine Or.inl ?_
        refine hc74 _ _ _ _ ⟨_, _, _, _, hNC, rfl, rfl, by omega, ?_⟩
        refine fin _ ?_
        simp [qH, htr, trT]
       ·rw [if_neg (by simp [hb])] at htr
        refine fin _ ?_
        rw [List.take_length]
        simp only [qH, htr, trT, xB, wQ, List.append_nil, Bool.not_and, Bool.or_assoc]
 ·refine Or.inl ?_
  refine jN 0 ⟨[1, 2, 3, 13, 14], [], Nat, fun i => [(15, .i .i64 (i : Int))], fun i => HB1 [.i .i64 ck, .i .i64 cn1, .i .i64 cn2, .i .i64 cn3, .s cm4 cv4, .s cm5 cv5, .s cm6 cv6, .qx 12 ckr, .sl0, .qx 2 cfr, .b cb0, .s crn crv] (o) ++ [⟨51, 0, .l [.i .i64 k, .i .i64 n1, .i .i64 n2, .i .i64 n3, .s m4 v4, .s m5 v5, .s x.1 x.2, .qx 12 kr, .sl0, .qx 2 fr, .b b, .s rn rv]⟩], fun i => i = 0, fun i => 0, ⟨0, ⟨⟨_, rfl, rfl⟩, ⟨_, rfl, rfl⟩, ⟨_, rfl, rfl⟩, ⟨_, rfl, rfl⟩, ⟨_, rfl, rfl⟩, ⟨_, rfl, rfl⟩, trivial⟩, rfl, rfl, ?_⟩, ?_⟩
  ·show 0 < LL
   omega
  rintro i rfl
  refine And.intro (fun hlt => absurd hlt (by omega)) (fun hge => ?_)
  refine And.intro (fun hk2 => ?_) (fun hk2 => ?_)
  ·refine Or.inl ?_
   refine Or.inl ?_
   refine And.intro (by omega) ?_
   intro _ _
   refine hcE _ _ _ _ ⟨_, _, rfl, rfl, by omega, ?_⟩
   refine uB ?_
   refine Or.inl ?_
   refine jN 3 ⟨[1, 2, 3, 48, 49], [], Nat, fun i => [(50, .i .i64 (i : Int))], fun i => HB1 [.i .i64 ck, .i .i64 cn1, .i .i64 cn2, .i .i64 cn3, .s cm4 cv4, .s cm5 cv5, .s cm6 cv6, .qx 12 ckr, .sl0, .qx 2 cfr, .b cb0, .s crn crv] ((o || !([] : List Tx).isEmpty) || !(jB (ks.take i)).isEmpty) ++ [⟨51, 0, .l [.i .i64 k, .i .i64 n1, .i .i64 n2, .i .i64 n3, .s m4 v4, .s m5 v5, .s x.1 x.2, .qx 12 kr, .sl0, .qx 2 fr, .b b, .s rn rv]⟩], fun i => i ≤ ks.length, fun i => ks.length - i, ⟨0, ⟨⟨_, rfl, rfl⟩, ⟨_, rfl, rfl⟩, ⟨_, rfl, rfl⟩, ⟨_, rfl, rfl⟩, ⟨_, rfl, rfl⟩, ⟨_, rfl, rfl⟩, trivial⟩, ?_, Nat.zero_le _, ?_⟩, ?_⟩
   ·refine congrArg (fun o' => HB1 [.i .i64 ck, .i .i64 cn1, .i .i64 cn2, .i .i64 cn3, .s cm4 cv4, .s cm5 cv5, .s cm6 cv6, .qx 12 ckr, .sl0, .qx 2 cfr, .b cb0, .s crn crv] (o') ++ [⟨51, 0, .l [.i .i64 k, .i .i64 n1, .i .i64 n2, .i .i64 n3, .s m4 v4, .s m5 v5, .s x.1 x.2, .qx 12 kr, .sl0, .qx 2 fr, .b b, .s rn rv]⟩]) (?_ : (o) = ((o || !([] : List Tx).isEmpty) || !(jB (ks.take 0)).isEmpty))
    simp [jB]
   ·show ks.length - 0 < LL
    omega
   intro i hi
   refine And.intro (fun hlt => ?_) (fun hge => ?_)
   ·refine And.intro ⟨by omega, by omega⟩ ?_
    intro p hp
    obtain ⟨t', ht', hr⟩ := qK hK (k := i) (by simpa using hp)
    have hr' := uM hr
    have hw := qL ht'
    have hot := qI oks ht'
    have hst : ((o || !([] : List Tx).isEmpty) || !(jB (ks.take (i + 1))).isEmpty) = (((o || !([] : List Tx).isEmpty) || !(jB (ks.take i)).isEmpty) || !(qH t').isEmpty) := by
     rw [jI ht', zF]
     simp only [jB, List.append_nil, xB, Bool.not_and, Bool.or_assoc]
    obtain ⟨k', x', ks', ld', ft', tr'⟩ := t'
    simp only [isT] at hr
    obtain ⟨n1', n2', n3', m4', v4', m5', v5', kr', lr', fr', b', rn', rv', rfl, _⟩ := hr
    refine Or.inl ?_
    refine Or.inl ?_
    refine Or.inl ?_
    refine Or.inl ?_
    refine hc51 _ _ _ _ ⟨_, _, (.mk k' x' ks' ld' ft' tr'), _, hNC, rfl, rfl, hr', hot, by omega, ?_⟩
    refine And.intro ⟨by omega, by omega⟩ ?_
    refine Or.inl ?_
    refine ⟨i + 1, ⟨⟨_, rfl, rfl⟩, ⟨_, rfl, rfl⟩, ⟨_, rfl, rfl⟩, ⟨_, rfl, rfl⟩, ⟨_, rfl, rfl⟩, ⟨_, rfl, rfl⟩, trivial⟩, ?_, ?_, ?_⟩
    ·show xH (HB1 [.i .i64 ck, .i .i64 cn1, .i .i64 cn2, .i .i64 cn3, .s cm4 cv4, .s cm5 cv5, .s cm6 cv6, .qx 12 ckr, .sl0, .qx 2 cfr, .b cb0, .s crn crv] ((o || !([] : List Tx).isEmpty) || !(jB (ks.take (i + 1))).isEmpty) ++ [⟨51, 0, .l [.i .i64 k, .i .i64 n1, .i .i64 n2, .i .i64 n3, .s m4 v4, .s m5 v5, .s x.1 x.2, .qx 12 kr, .sl0, .qx 2 fr, .b b, .s rn rv]⟩]) _
     rw [hst]
     exact ⟨rfl, rfl, rfl, trivial⟩
    ·show i + 1 ≤ ks.length; omega
    ·show ks.length - (i + 1) < ks.length - i; omega
   ·obtain rfl : i = ks.length := by omega
    refine Or.inl ?_
    refine jN 5 ⟨[1, 2, 3, 60, 61], [], Nat, fun i => [(62, .i .i64 (i : Int))], fun i => HB1 [.i .i64 ck, .i .i64 cn1, .i .i64 cn2, .i .i64 cn3, .s cm4 cv4, .s cm5 cv5, .s cm6 cv6, .qx 12 ckr, .sl0, .qx 2 cfr, .b cb0, .s crn crv] (((o || !([] : List Tx).isEmpty) || !(jB ks).isEmpty) || !(ft.take i).isEmpty) ++ [⟨51, 0, .l [.i .i64 k, .i .i64 n1, .i .i64 n2, .i .i64 n3, .s m4 v4, .s m5 v5, .s x.1 x.2, .qx 12 kr, .sl0, .qx 2 fr, .b b, .s rn rv]⟩], fun i => i ≤ ft.length, fun i => ft.length - i, ⟨0, ⟨⟨_, rfl, rfl⟩, ⟨_, rfl, rfl⟩, ⟨_, rfl, rfl⟩, ⟨_, rfl, rfl⟩, ⟨_, rfl, rfl⟩, ⟨_, rfl, rfl⟩, trivial⟩, ?_, Nat.zero_le _, ?_⟩, ?_⟩
    ·refine congrArg (fun o' => HB1 [.i .i64 ck, .i .i64 cn1, .i .i64 cn2, .i .i64 cn3, .s cm4 cv4, .s cm5 cv5, .s cm6 cv6, .qx 12 ckr, .sl0, .qx 2 cfr, .b cb0, .s crn crv] (o') ++ [⟨51, 0, .l [.i .i64 k, .i .i64 n1, .i .i64 n2, .i .i64 n3, .s m4 v4, .s m5 v5, .s x.1 x.2, .qx 12 kr, .sl0, .qx 2 fr, .b b, .s rn rv]⟩]) (?_ : ((o || !([] : List Tx).isEmpty) || !(jB (ks.take ks.length)).isEmpty) = (((o || !([] : List Tx).isEmpty) || !(jB ks).isEmpty) || !(ft.take 0).isEmpty))
     rw [List.take_length]; simp
    ·show ft.length - 0 < LL
     omega
    intro i hi
    refine And.intro (fun hlt => ?_) (fun hge => ?_)
    ·refine And.intro ⟨by omega, by omega⟩ ?_
     intro p hp
     obtain ⟨q, kk, bb, hq, rfl⟩ := qY hF (k := i) (by simpa using hp)
     have hqx := oft q (List.mem_of_getElem? hq)
     unfold okX at hqx
     refine Or.inl ?_
     refine Or.inl ?_
     refine hc74 _ _ _ _ ⟨_, _, _, _, hNC, rfl, rfl, by omega, ?_⟩
     have hst : (((o || !([] : List Tx).isEmpty) || !(jB ks).isEmpty) || !(ft.take (i + 1)).isEmpty) = true := by rw [jI hq]; simp
     refine And.intro ⟨by omega, by omega⟩ ?_
     refine Or.inl ?_
     refine ⟨i + 1, ⟨⟨_, rfl, rfl⟩, ⟨_, rfl, rfl⟩, ⟨_, rfl, rfl⟩, ⟨_, rfl, rfl⟩, ⟨_, rfl, rfl⟩, ⟨_, rfl, rfl⟩, trivial⟩, ?_, ?_, ?_⟩
     ·show xH (HB1 [.i .i64 ck, .i .i64 cn1, .i .i64 cn2, .i .i64 cn3, .s cm4 cv4, .s cm5 cv5, .s cm6 cv6, .qx 12 ckr, .sl0, .qx 2 cfr, .b cb0, .s crn crv] (((o || !([] : List Tx).isEmpty) || !(jB ks).isEmpty) || !(ft.take (i + 1)).isEmpty) ++ [⟨51, 0, .l [.i .i64 k, .i .i64 n1, .i .i64 n2, .i .i64 n3, .s m4 v4, .s m5 v5, .s x.1 x.2, .qx 12 kr, .sl0, .qx 2 fr, .b b, .s rn rv]⟩]) _
      rw [hst]
      exact ⟨rfl, rfl, rfl, trivial⟩
     ·show i + 1 ≤ ft.length; omega
     ·show ft.length - (i + 1) < ft.length - i; omega
    ·obtain rfl : i = ft.length := by omega
     refine qM (fun hb => ?_) (fun hb => ?_)
     ·rw [if_pos hb] at htr
      have hrn : rn ≤ 200000000000 := otr _ htr
      refine Or.inl ?_
      refine hc74 _ _ _ _ ⟨_, _, _, _, hNC, rfl, rfl, by omega, ?_⟩
      refine fin _ ?_
      simp [qH, htr, trT]
     ·rw [if_neg (by simp [hb])] at htr
      refine fin _ ?_
      rw [List.take_length]
      simp only [qH, htr, trT, xB, wQ, List.append_nil, Bool.not_and, Bool.or_assoc]
  ·refine Or.inl ?_
   refine And.intro (fun hk => ?_) (fun hk => ?_)
   ·refine Or.inl ?_
    intro _ _
    refine And.intro (fun hx => ?_) (fun hx => ?_)
    ·refine Or.inl ?_
     refine Or.inl ?_
     refine And.intro (by omega) ?_
     intro _ _
     refine hcE _ _ _ _ ⟨_, _, rfl, rfl, by omega, ?_⟩
     refine uB ?_
     refine Or.inl ?_
     refine jN 3 ⟨[1, 2, 3, 48, 49], [], Nat, fun i => [(50, .i .i64 (i : Int))], fun i => HB1 [.i .i64 ck, .i .i64 cn1, .i .i64 cn2, .i .i64 cn3, .s cm4 cv4, .s cm5 cv5, .s cm6 cv6, .qx 12 ckr, .sl0, .qx 2 cfr, .b cb0, .s crn crv] ((o || !([] : List Tx).isEmpty) || !(jB (ks.take i)).isEmpty) ++ [⟨51, 0, .l [.i .i64 k, .i .i64 n1, .i .i64 n2, .i .i64 n3, .s m4 v4, .s m5 v5, .s x.1 x.2, .qx 12 kr, .sl0, .qx 2 fr, .b b, .s rn rv]⟩], fun i => i ≤ ks.length, fun i => ks.length - i, ⟨0, ⟨⟨_, rfl, rfl⟩, ⟨_, rfl, rfl⟩, ⟨_, rfl, rfl⟩, ⟨_, rfl, rfl⟩, ⟨_, rfl, rfl⟩, ⟨_, rfl, rfl⟩, trivial⟩, ?_, Nat.zero_le _, ?_⟩, ?_⟩
     ·refine congrArg (fun o' => HB1 [.i .i64 ck, .i .i64 cn1, .i .i64 cn2, .i .i64 cn3, .s cm4 cv4, .s cm5 cv5, .s cm6 cv6, .qx 12 ckr, .sl0, .qx 2 cfr, .b cb0, .s crn crv] (o') ++ [⟨51, 0, .l [.i .i64 k, .i .i64 n1, .i .i64 n2, .i .i64 n3, .s m4 v4, .s m5 v5, .s x.1 x.2, .qx 12 kr, .sl0, .qx 2 fr, .b b, .s rn rv]⟩]) (?_ : (o) = ((o || !([] : List Tx).isEmpty) || !(jB (ks.take 0)).isEmpty))
      simp [jB]
     ·show ks.length - 0 < LL
      omega
     intro i hi
     refine And.intro (fun hlt => ?_) (fun hge => ?_)
     ·refine And.intro ⟨by omega, by omega⟩ ?_
      intro p hp
      obtain ⟨t', ht', hr⟩ := qK hK (k := i) (by simpa using hp)
      have hr' := uM hr
      have hw := qL ht'
      have hot := qI oks ht'
      have hst : ((o || !([] : List Tx).isEmpty) || !(jB (ks.take (i + 1))).isEmpty) = (((o || !([] : List Tx).isEmpty) || !(jB (ks.take i)).isEmpty) || !(qH t').isEmpty) := by
       rw [jI ht', zF]
       simp only [jB, List.append_nil, xB, Bool.not_and, Bool.or_assoc]
      obtain ⟨k', x', ks', ld', ft', tr'⟩ := t'
      simp only [isT] at hr
      obtain ⟨n1', n2', n3', m4', v4', m5', v5', kr', lr', fr', b', rn', rv', rfl, _⟩ := hr
      refine Or.inl ?_
      refine Or.inl ?_
      refine Or.inl ?_
      refine Or.inl ?_
      refine hc51 _ _ _ _ ⟨_, _, (.mk k' x' ks' ld' ft' tr'), _, hNC, rfl, rfl, hr', hot, by omega, ?_⟩
      refine And.intro ⟨by omega, by omega⟩ ?_
      refine Or.inl ?_
      refine ⟨i + 1, ⟨⟨_, rfl, rfl⟩, ⟨_, rfl, rfl⟩, ⟨_, rfl, rfl⟩, ⟨_, rfl, rfl⟩, ⟨_, rfl, rfl⟩, ⟨_, rfl, rfl⟩, trivial⟩, ?_, ?_, ?_⟩
      ·show xH (HB1 [.i .i64 ck, .i .i64 cn1, .i .i64 cn2, .i .i64 cn3, .s cm4 cv4, .s cm5 cv5, .s cm6 cv6, .qx 12 ckr, .sl0, .qx 2 cfr, .b cb0, .s crn crv] ((o || !([] : List Tx).isEmpty) || !(jB (ks.take (i + 1))).isEmpty) ++ [⟨51, 0, .l [.i .i64 k, .i .i64 n1, .i .i64 n2, .i .i64 n3, .s m4 v4, .s m5 v5, .s x.1 x.2, .qx 12 kr, .sl0, .qx 2 fr, .b b, .s rn rv]⟩]) _
       rw [hst]
       exact ⟨rfl, rfl, rfl, trivial⟩
      ·show i + 1 ≤ ks.length; omega
      ·show ks.length - (i + 1) < ks.length - i; omega
     ·obtain rfl : i = ks.length := by omega
      refine Or.inl ?_
      refine jN 5 ⟨[1, 2, 3, 60, 61], [], Nat, fun i => [(62, .i .i64 (i : Int))], fun i => HB1 [.i .i64 ck, .i .i64 cn1, .i .i64 cn2, .i .i64 cn3, .s cm4 cv4, .s cm5 cv5, .s cm6 cv6, .qx 12 ckr, .sl0, .qx 2 cfr, .b cb0, .s crn crv] (((o || !([] : List Tx).isEmpty) || !(jB ks).isEmpty) || !(ft.take i).isEmpty) ++ [⟨51, 0, .l [.i .i64 k, .i .i64 n1, .i .i64 n2, .i .i64 n3, .s m4 v4, .s m5 v5, .s x.1 x.2, .qx 12 kr, .sl0, .qx 2 fr, .b b, .s rn rv]⟩], fun i => i ≤ ft.length, fun i => ft.length - i, ⟨0, ⟨⟨_, rfl, rfl⟩, ⟨_, rfl, rfl⟩, ⟨_, rfl, rfl⟩, ⟨_, rfl, rfl⟩, ⟨_, rfl, rfl⟩, ⟨_, rfl, rfl⟩, trivial⟩, ?_, Nat.zero_le _, ?_⟩, ?_⟩
      ·refine congrArg (fun o' => HB1 [.i .i64 ck, .i .i64 cn1, .i .i64 cn2, .i .i64 cn3, .s cm4 cv4, .s cm5 cv5, .s cm6 cv6, .qx 12 ckr, .sl0, .qx 2 cfr, .b cb0, .s crn crv] (o') ++ [⟨51, 0, .l [.i .i64 k, .i .i64 n1, .i .i64 n2, .i .i64 n3, .s m4 v4, .s m5 v5, .s x.1 x.2, .qx 12 kr, .sl0, .qx 2 fr, .b b, .s rn rv]⟩]) (?_ : ((o || !([] : List Tx).isEmpty) || !(jB (ks.take ks.length)).isEmpty) = (((o || !([] : List Tx).isEmpty) || !(jB ks).isEmpty) || !(ft.take 0).isEmpty))
       rw [List.take_length]; simp
      ·show ft.length - 0 < LL
       omega
      intro i hi
      refine And.intro (fun hlt => ?_) (fun hge => ?_)
      ·refine And.intro ⟨by omega, by omega⟩ ?_
       intro p hp
       obtain ⟨q, kk, bb, hq, rfl⟩ := qY hF (k := i) (by simpa using hp)
       have hqx := oft q (List.mem_of_getElem? hq)
       unfold okX at hqx
       refine Or.inl ?_
       refine Or.inl ?_
       refine hc74 _ _ _ _ ⟨_, _, _, _, hNC, rfl, rfl, by omega, ?_⟩
       have hst : (((o || !([] : List Tx).isEmpty) || !(jB ks).isEmpty) || !(ft.take (i + 1)).isEmpty) = true := by rw [jI hq]; simp
       refine And.intro ⟨by omega, by omega⟩ ?_
       refine Or.inl ?_
       refine ⟨i + 1, ⟨⟨_, rfl, rfl⟩, ⟨_, rfl, rfl⟩, ⟨_, rfl, rfl⟩, ⟨_, rfl, rfl⟩, ⟨_, rfl, rfl⟩, ⟨_, rfl, rfl⟩, trivial⟩, ?_, ?_, ?_⟩
       ·show xH (HB1 [.i .i64 ck, .i .i64 cn1, .i .i64 cn2, .i .i64 cn3, .s cm4 cv4, .s cm5 cv5, .s cm6 cv6, .qx 12 ckr, .sl0, .qx 2 cfr, .b cb0, .s crn crv] (((o || !([] : List Tx).isEmpty) || !(jB ks).isEmpty) || !(ft.take (i + 1)).isEmpty) ++ [⟨51, 0, .l [.i .i64 k, .i .i64 n1, .i .i64 n2, .i .i64 n3, .s m4 v4, .s m5 v5, .s x.1 x.2, .qx 12 kr, .sl0, .qx 2 fr, .b b, .s rn rv]⟩]) _
        rw [hst]
        exact ⟨rfl, rfl, rfl, trivial⟩
       ·show i + 1 ≤ ft.length; omega
       ·show ft.length - (i + 1) < ft.length - i; omega
      ·obtain rfl : i = ft.length := by omega
       refine qM (fun hb => ?_) (fun hb => ?_)
       ·rw [if_pos hb] at htr
        have hrn : rn ≤ 200000000000 := otr _ htr
        refine Or.inl ?_
        refine hc74 _ _ _ _ ⟨_, _, _, _, hNC, rfl, rfl, by omega, ?_⟩
        refine fin _ ?_
        simp [qH, htr, trT]
       ·rw [if_neg (by simp [hb])] at htr
        refine fin _ ?_
        rw [List.take_length]
        simp only [qH, htr, trT, xB, wQ, List.append_nil, Bool.not_and, Bool.or_assoc]
    ·refine Or.inl ?_
     refine Or.inl ?_
     refine jN 3 ⟨[1, 2, 3, 48, 49], [], Nat, fun i => [(50, .i .i64 (i : Int))], fun i => HB1 [.i .i64 ck, .i .i64 cn1, .i .i64 cn2, .i .i64 cn3, .s cm4 cv4, .s cm5 cv5, .s cm6 cv6, .qx 12 ckr, .sl0, .qx 2 cfr, .b cb0, .s crn crv] ((o || !([] : List Tx).isEmpty) || !(jB (ks.take i)).isEmpty) ++ [⟨51, 0, .l [.i .i64 k, .i .i64 n1, .i .i64 n2, .i .i64 n3, .s m4 v4, .s m5 v5, .s x.1 x.2, .qx 12 kr, .sl0, .qx 2 fr, .b b, .s rn rv]⟩], fun i => i ≤ ks.length, fun i => ks.length - i, ⟨0, ⟨⟨_, rfl, rfl⟩, ⟨_, rfl, rfl⟩, ⟨_, rfl, rfl⟩, ⟨_, rfl, rfl⟩, ⟨_, rfl, rfl⟩, ⟨_, rfl, rfl⟩, trivial⟩, ?_, Nat.zero_le _, ?_⟩, ?_⟩
     ·refine congrArg (fun o' => HB1 [.i .i64 ck, .i .i64 cn1, .i .i64 cn2, .i .i64 cn3, .s cm4 cv4, .s cm5 cv5, .s cm6 cv6, .qx 12 ckr, .sl0, .qx 2 cfr, .b cb0, .s crn crv] (o') ++ [⟨51, 0, .l [.i .i64 k, .i .i64 n1, .i .i64 n2, .i .i64 n3, .s m4 v4, .s m5 v5, .s x.1 x.2, .qx 12 kr, .sl0, .qx 2 fr, .b b, .s rn rv]⟩]) (?_ : (o) = ((o || !([] : List Tx).isEmpty) || !(jB (ks.take 0)).isEmpty))
      simp [jB]
     ·show ks.length - 0 < LL
      omega
     intro i hi
     refine And.intro (fun hlt => ?_) (fun hge => ?_)
     ·refine And.intro ⟨by omega, by omega⟩ ?_
      intro p hp
      obtain ⟨t', ht', hr⟩ := qK hK (k := i) (by simpa using hp)
      have hr' := uM hr
      have hw := qL ht'
      have hot := qI oks ht'
      have hst : ((o || !([] : List Tx).isEmpty) || !(jB (ks.take (i + 1))).isEmpty) = (((o || !([] : List Tx).isEmpty) || !(jB (ks.take i)).isEmpty) || !(qH t').isEmpty) := by
       rw [jI ht', zF]
       simp only [jB, List.append_nil, xB, Bool.not_and, Bool.or_assoc]
      obtain ⟨k', x', ks', ld', ft', tr'⟩ := t'
      simp only [isT] at hr
      obtain ⟨n1', n2', n3', m4', v4', m5', v5', kr', lr', fr', b', rn', rv', rfl, _⟩ := hr
      refine Or.inl ?_
      refine Or.inl ?_
      refine Or.inl ?_
      refine Or.inl ?_
      refine hc51 _ _ _ _ ⟨_, _, (.mk k' x' ks' ld' ft' tr'), _, hNC, rfl, rfl, hr', hot, by omega, ?_⟩
      refine And.intro ⟨by omega, by omega⟩ ?_
      refine Or.inl ?_
      refine ⟨i + 1, ⟨⟨_, rfl, rfl⟩, ⟨_, rfl, rfl⟩, ⟨_, rfl, rfl⟩, ⟨_, rfl, rfl⟩, ⟨_, rfl, rfl⟩, ⟨_, rfl, rfl⟩, trivial⟩, ?_, ?_, ?_⟩
      ·show xH (HB1 [.i .i64 ck, .i .i64 cn1, .i .i64 cn2, .i .i64 cn3, .s cm4 cv4, .s cm5 cv5, .s cm6 cv6, .qx 12 ckr, .sl0, .qx 2 cfr, .b cb0, .s crn crv] ((o || !([] : List Tx).isEmpty) || !(jB (ks.take (i + 1))).isEmpty) ++ [⟨51, 0, .l [.i .i64 k, .i .i64 n1, .i .i64 n2, .i .i64 n3, .s m4 v4, .s m5 v5, .s x.1 x.2, .qx 12 kr, .sl0, .qx 2 fr, .b b, .s rn rv]⟩]) _
       rw [hst]
       exact ⟨rfl, rfl, rfl, trivial⟩
      ·show i + 1 ≤ ks.length; omega
      ·show ks.length - (i + 1) < ks.length - i; omega
     ·obtain rfl : i = ks.length := by omega
      refine Or.inl ?_
      refine jN 5 ⟨[1, 2, 3, 60, 61], [], Nat, fun i => [(62, .i .i64 (i : Int))], fun i => HB1 [.i .i64 ck, .i .i64 cn1, .i .i64 cn2, .i .i64 cn3, .s cm4 cv4, .s cm5 cv5, .s cm6 cv6, .qx 12 ckr, .sl0, .qx 2 cfr, .b cb0, .s crn crv] (((o || !([] : List Tx).isEmpty) || !(jB ks).isEmpty) || !(ft.take i).isEmpty) ++ [⟨51, 0, .l [.i .i64 k, .i .i64 n1, .i .i64 n2, .i .i64 n3, .s m4 v4, .s m5 v5, .s x.1 x.2, .qx 12 kr, .sl0, .qx 2 fr, .b b, .s rn rv]⟩], fun i => i ≤ ft.length, fun i => ft.length - i, ⟨0, ⟨⟨_, rfl, rfl⟩, ⟨_, rfl, rfl⟩, ⟨_, rfl, rfl⟩, ⟨_, rfl, rfl⟩, ⟨_, rfl, rfl⟩, ⟨_, rfl, rfl⟩, trivial⟩, ?_, Nat.zero_le _, ?_⟩, ?_⟩
      ·refine congrArg (fun o' => HB1 [.i .i64 ck, .i .i64 cn1, .i .i64 cn2, .i .i64 cn3, .s cm4 cv4, .s cm5 cv5, .s cm6 cv6, .qx 12 ckr, .sl0, .qx 2 cfr, .b cb0, .s crn crv] (o') ++ [⟨51, 0, .l [.i .i64 k, .i .i64 n1, .i .i64 n2, .i .i64 n3, .s m4 v4, .s m5 v5, .s x.1 x.2, .qx 12 kr, .sl0, .qx 2 fr, .b b, .s rn rv]⟩]) (?_ : ((o || !([] : List Tx).isEmpty) || !(jB (ks.take ks.length)).isEmpty) = (((o || !([] : List Tx).isEmpty) || !(jB ks).isEmpty) || !(ft.take 0).isEmpty))
       rw [List.take_length]; simp
      ·show ft.length - 0 < LL
       omega
      intro i hi
      refine And.intro (fun hlt => ?_) (fun hge => ?_)
      ·refine And.intro ⟨by omega, by omega⟩ ?_
       intro p hp
       obtain ⟨q, kk, bb, hq, rfl⟩ := qY hF (k := i) (by simpa using hp)
       have hqx := oft q (List.mem_of_getElem? hq)
       unfold okX at hqx
       refine Or.inl ?_
       refine Or.inl ?_
       refine hc74 _ _ _ _ ⟨_, _, _, _, hNC, rfl, rfl, by omega, ?_⟩
       have hst : (((o || !([] : List Tx).isEmpty) || !(jB ks).isEmpty) || !(ft.take (i + 1)).isEmpty) = true := by rw [jI hq]; simp
       refine And.intro ⟨by omega, by omega⟩ ?_
       refine Or.inl ?_
       refine ⟨i + 1, ⟨⟨_, rfl, rfl⟩, ⟨_, rfl, rfl⟩, ⟨_, rfl, rfl⟩, ⟨_, rfl, rfl⟩, ⟨_, rfl, rfl⟩, ⟨_, rfl, rfl⟩, trivial⟩, ?_, ?_, ?_⟩
       ·show xH (HB1 [.i .i64 ck, .i .i64 cn1, .i .i64 cn2, .i .i64 cn3, .s cm4 cv4, .s cm5 cv5, .s cm6 cv6, .qx 12 ckr, .sl0, .qx 2 cfr, .b cb0, .s crn crv] (((o || !([] : List Tx).isEmpty) || !(jB ks).isEmpty) || !(ft.take (i + 1)).isEmpty) ++ [⟨51, 0, .l [.i .i64 k, .i .i64 n1, .i .i64 n2, .i .i64 n3, .s m4 v4, .s m5 v5, .s x.1 x.2, .qx 12 kr, .sl0, .qx 2 fr, .b b, .s rn rv]⟩]) _
        rw [hst]
        exact ⟨rfl, rfl, rfl, trivial⟩
       ·show i + 1 ≤ ft.length; omega
       ·show ft.length - (i + 1) < ft.length - i; omega
      ·obtain rfl : i = ft.length := by omega
       refine qM (fun hb => ?_) (fun hb => ?_)
       ·rw [if_pos hb] at htr
        have hrn : rn ≤ 200000000000 := otr _ htr
        refine Or.inl ?_
        refine hc74 _ _ _ _ ⟨_, _, _, _, hNC, rfl, rfl, by omega, ?_⟩
        refine fin _ ?_
        simp [qH, htr, trT]
       ·rw [if_neg (by simp [hb])] at htr
        refine fin _ ?_
        rw [List.take_length]
        simp only [qH, htr, trT, xB, wQ, List.append_nil, Bool.not_and, Bool.or_assoc]
   ·refine Or.inl ?_
    refine Or.inl ?_
    refine Or.inl ?_
    refine jN 3 ⟨[1, 2, 3, 48, 49], [], Nat, fun i => [(50, .i .i64 (i : Int))], fun i => HB1 [.i .i64 ck, .i .i64 cn1, .i .i64 cn2, .i .i64 cn3, .s cm4 cv4, .s cm5 cv5, .s cm6 cv6, .qx 12 ckr, .sl0, .qx 2 cfr, .b cb0, .s crn crv] ((o || !([] : List Tx).isEmpty) || !(jB (ks.take i)).isEmpty) ++ [⟨51, 0, .l [.i .i64 k, .i .i64 n1, .i .i64 n2, .i .i64 n3, .s m4 v4, .s m5 v5, .s x.1 x.2, .qx 12 kr, .sl0, .qx 2 fr, .b b, .s rn rv]⟩], fun i => i ≤ ks.length, fun i => ks.length - i, ⟨0, ⟨⟨_, rfl, rfl⟩, ⟨_, rfl, rfl⟩, ⟨_, rfl, rfl⟩, ⟨_, rfl, rfl⟩, ⟨_, rfl, rfl⟩, ⟨_, rfl, rfl⟩, trivial⟩, ?_, Nat.zero_le _, ?_⟩, ?_⟩
    ·refine congrArg (fun o' => HB1 [.i .i64 ck, .i .i64 cn1, .i .i64 cn2, .i .i64 cn3, .s cm4 cv4, .s cm5 cv5, .s cm6 cv6, .qx 12 ckr, .sl0, .qx 2 cfr, .b cb0, .s crn crv] (o') ++ [⟨51, 0, .l [.i .i64 k, .i .i64 n1, .i .i64 n2, .i .i64 n3, .s m4 v4, .s m5 v5, .s x.1 x.2, .qx 12 kr, .sl0, .qx 2 fr, .b b, .s rn rv]⟩]) (?_ : (o) = ((o || !([] : List Tx).isEmpty) || !(jB (ks.take 0)).isEmpty))
     simp [jB]
    ·show ks.length - 0 < LL
     omega
    intro i hi
    refine And.intro (fun hlt => ?_) (fun hge => ?_)
    ·refine And.intro ⟨by omega, by omega⟩ ?_
     intro p hp
     obtain ⟨t', ht', hr⟩ := qK hK (k := i) (by simpa using hp)
     have hr' := uM hr
     have hw := qL ht'
     have hot := qI oks ht'
     have hst : ((o || !([] : List Tx).isEmpty) || !(jB (ks.take (i + 1))).isEmpty) = (((o || !([] : List Tx).isEmpty) || !(jB (ks.take i)).isEmpty) || !(qH t').isEmpty) := by
      rw [jI ht', zF]
      simp only [jB, List.append_nil, xB, Bool.not_and, Bool.or_assoc]
     obtain ⟨k', x', ks', ld', ft', tr'⟩ := t'
     simp only [isT] at hr
     obtain ⟨n1', n2', n3', m4', v4', m5', v5', kr', lr', fr', b', rn', rv', rfl, _⟩ := hr
     refine Or.inl ?_
     refine Or.inl ?_
     refine Or.inl ?_
     refine Or.inl ?_
     refine hc51 _ _ _ _ ⟨_, _, (.mk k' x' ks' ld' ft' tr'), _, hNC, rfl, rfl, hr', hot, by omega, ?_⟩
     refine And.intro ⟨by omega, by omega⟩ ?_
     refine Or.inl ?_
     refine ⟨i + 1, ⟨⟨_, rfl, rfl⟩, ⟨_, rfl, rfl⟩, ⟨_, rfl, rfl⟩, ⟨_, rfl, rfl⟩, ⟨_, rfl, rfl⟩, ⟨_, rfl, rfl⟩, trivial⟩, ?_, ?_, ?_⟩
     ·show xH (HB1 [.i .i64 ck, .i .i64 cn1, .i .i64 cn2, .i .i64 cn3, .s cm4 cv4, .s cm5 cv5, .s cm6 cv6, .qx 12 ckr, .sl0, .qx 2 cfr, .b cb0, .s crn crv] ((o || !([] : List Tx).isEmpty) || !(jB (ks.take (i + 1))).isEmpty) ++ [⟨51, 0, .l [.i .i64 k, .i .i64 n1, .i .i64 n2, .i .i64 n3, .s m4 v4, .s m5 v5, .s x.1 x.2, .qx 12 kr, .sl0, .qx 2 fr, .b b, .s rn rv]⟩]) _
      rw [hst]
      exact ⟨rfl, rfl, rfl, trivial⟩
     ·show i + 1 ≤ ks.length; omega
     ·show ks.length - (i + 1) < ks.length - i; omega
    ·obtain rfl : i = ks.length := by omega
     refine Or.inl ?_
     refine jN 5 ⟨[1, 2, 3, 60, 61], [], Nat, fun i => [(62, .i .i64 (i : Int))], fun i => HB1 [.i .i64 ck, .i .i64 cn1, .i .i64 cn2, .i .i64 cn3, .s cm4 cv4, .s cm5 cv5, .s cm6 cv6, .qx 12 ckr, .sl0, .qx 2 cfr, .b cb0, .s crn crv] (((o || !([] : List Tx).isEmpty) || !(jB ks).isEmpty) || !(ft.take i).isEmpty) ++ [⟨51, 0, .l [.i .i64 k, .i .i64 n1, .i .i64 n2, .i .i64 n3, .s m4 v4, .s m5 v5, .s x.1 x.2, .qx 12 kr, .sl0, .qx 2 fr, .b b, .s rn rv]⟩], fun i => i ≤ ft.length, fun i => ft.length - i, ⟨0, ⟨⟨_, rfl, rfl⟩, ⟨_, rfl, rfl⟩, ⟨_, rfl, rfl⟩, ⟨_, rfl, rfl⟩, ⟨_, rfl, rfl⟩, ⟨_, rfl, rfl⟩, trivial⟩, ?_, Nat.zero_le _, ?_⟩, ?_⟩
     ·refine congrArg (fun o' => HB1 [.i .i64 ck, .i .i64 cn1, .i .i64 cn2, .i .i64 cn3, .s cm4 cv4, .s cm5 cv5, .s cm6 cv6, .qx 12 ckr, .sl0, .qx 2 cfr, .b cb0, .s crn crv] (o') ++ [⟨51, 0, .l [.i .i64 k, .i .i64 n1, .i .i64 n2, .i .i64 n3, .s m4 v4, .s m5 v5, .s x.1 x.2, .qx 12 kr, .sl0, .qx 2 fr, .b b, .s rn rv]⟩]) (?_ : ((o || !([] : List Tx).isEmpty) || !(jB (ks.take ks.length)).isEmpty) = (((o || !([] : List Tx).isEmpty) || !(jB ks).isEmpty) || !(ft.take 0).isEmpty))
      rw [List.take_length]; simp
     ·show ft.length - 0 < LL
      omega
     intro i hi
     refine And.intro (fun hlt => ?_) (fun hge => ?_)
     ·refine And.intro ⟨by omega, by omega⟩ ?_
      intro p hp
      obtain ⟨q, kk, bb, hq, rfl⟩ := qY hF (k := i) (by simpa using hp)
      have hqx := oft q (List.mem_of_getElem? hq)
      unfold okX at hqx
      refine Or.inl ?_
      refine Or.inl ?_
      refine hc74 _ _ _ _ ⟨_, _, _, _, hNC, rfl, rfl, by omega, ?_⟩
      have hst : (((o || !([] : List Tx).isEmpty) || !(jB ks).isEmpty) || !(ft.take (i + 1)).isEmpty) = true := by rw [jI hq]; simp
      refine And.intro ⟨by omega, by omega⟩ ?_
      refine Or.inl ?_
      refine ⟨i + 1, ⟨⟨_, rfl, rfl⟩, ⟨_, rfl, rfl⟩, ⟨_, rfl, rfl⟩, ⟨_, rfl, rfl⟩, ⟨_, rfl, rfl⟩, ⟨_, rfl, rfl⟩, trivial⟩, ?_, ?_, ?_⟩
      ·show xH (HB1 [.i .i64 ck, .i .i64 cn1, .i .i64 cn2, .i .i64 cn3, .s cm4 cv4, .s cm5 cv5, .s cm6 cv6, .qx 12 ckr, .sl0, .qx 2 cfr, .b cb0, .s crn crv] (((o || !([] : List Tx).isEmpty) || !(jB ks).isEmpty) || !(ft.take (i + 1)).isEmpty) ++ [⟨51, 0, .l [.i .i64 k, .i .i64 n1, .i .i64 n2, .i .i64 n3, .s m4 v4, .s m5 v5, .s x.1 x.2, .qx 12 kr, .sl0, .qx 2 fr, .b b, .s rn rv]⟩]) _
       rw [hst]
       exact ⟨rfl, rfl, rfl, trivial⟩
      ·show i + 1 ≤ ft.length; omega
      ·show ft.length - (i + 1) < ft.length - i; omega
     ·obtain rfl : i = ft.length := by omega
      refine qM (fun hb => ?_) (fun hb => ?_)
      ·rw [if_pos hb] at htr
       have hrn : rn ≤ 200000000000 := otr _ htr
       refine Or.inl ?_
       refine hc74 _ _ _ _ ⟨_, _, _, _, hNC, rfl, rfl, by omega, ?_⟩
       refine fin _ ?_
       simp [qH, htr, trT]
      ·rw [if_neg (by simp [hb])] at htr
       refine fin _ ?_
       rw [List.take_length]
       simp only [qH, htr, trT, xB, wQ, List.append_nil, Bool.not_and, Bool.or_assoc]
end
end
end Go.Proofs.YthfmepmchaofjaaGreat.Ev.Lf
